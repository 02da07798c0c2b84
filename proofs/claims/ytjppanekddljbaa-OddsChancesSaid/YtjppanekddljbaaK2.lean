/- OddsChances returns true whatever the input, and the input reads as it did. Conditions: none but those of the given row (part 2) -/
import Derived.WalkLawsBesides
import Derived.Laws.StandIn
import Derived.Test.YtjppanekddljbaaK1
set_option linter.unusedVariables false
set_option linter.unusedSimpArgs false
/- What the kit's print wrote for these functions, taken together by wip/pick.py: each function's Lean function and that the Go code comes to it. -/
namespace Go.Proofs.Ytjppanekddljbaa.Pr
open Go.RowKit Go.Proofs.YtjppanekddljbaaW.PrintWords Go.Proofs.YtjppanekddljbaaW.PrintLast Go.Proofs.YtjppanekddljbaaW.PrintMore
attribute [local go_sem] max2_int min2_int max_two min_two max_three min_three max_four min_four
mutual
def sibylref01_Divide.l0 : Nat → List Int → List Int → List Int → List Int → Int → Option (List Int × List Int)
 | 0, _, _, _, _, _ => none
 | k + 1, x0, x1, x7, x8, x9 => if x9 ≥ 0 then ((sibylref01_Shl.f k x8 1).bind fun t467 => ((sibylref01_Bit.f x0 x9).bind fun t470 => (if t470 = true then ((sibylref01_Plus.f k t467 (([1] : List Int))).bind fun t474 => (sibylref01_Divide.j1 k x0 x1 x7 t474 x9)) else (sibylref01_Divide.j1 k x0 x1 x7 t467 x9)))) else ((sibylref01_Trim.f k x7).bind fun t464 => (some (t464, x8)))
def sibylref01_Divide.j1 : Nat → List Int → List Int → List Int → List Int → Int → Option (List Int × List Int)
 | 0, _, _, _, _, _ => none
 | k + 1, x0, x1, x7, x8, x9 => (sibylref01_Cmp.f k x8 x1).bind fun t477 => (if t477 ≥ 0 then ((sibylref01_Minus.f k x8 x1).bind fun t478 => (if 0 ≤ (wrap64 (Int.tdiv x9 32)) then (if (wrap64 (Int.tdiv x9 32)) < (x7.length : Int) then (if 0 ≤ (IntKind.u64.wrap (Int.tmod x9 32)) then (sibylref01_Divide.l0 k x0 x1 (x7.set ((wrap64 (Int.tdiv x9 32)) : Int).toNat (((rd x7 (wrap64 (Int.tdiv x9 32))) + (shl .u32 1 (IntKind.u64.wrap (Int.tmod x9 32)))) % 4294967296)) t478 (wrap64 (x9 - 1))) else (none)) else (none)) else (none))) else (sibylref01_Divide.l0 k x0 x1 x7 x8 (wrap64 (x9 - 1))))
end
def sibylref01_Divide.f (k : Nat) (l0 : List Int) (l1 : List Int) : Option (List Int × List Int) := (sibylref01_Bits.f k l0).bind fun t460 => (if 0 ≤ (wrap64 ((wrap64 (Int.tdiv t460 32)) + 1)) then (if (wrap64 ((wrap64 (Int.tdiv t460 32)) + 1) : Int).toNat ≤ 70368744177664 then (sibylref01_Divide.l0 k l0 l1 (List.replicate (wrap64 ((wrap64 (Int.tdiv t460 32)) + 1) : Int).toNat 0) ([] : List Int) (wrap64 (t460 - 1))) else (none)) else (none))
set_option maxHeartbeats 8000000 in
set_option maxRecDepth 100000 in
theorem sibylref01_Divide.calls (k : Nat) (A0 : Option Addr) (c0 : Nat) (l0 : List Int) (A1 : Option Addr) (c1 : Nat) (l1 : List Int) (r1 : List Int) (r2 : List Int) (w : World) (hr0 : Kd.C (Kd.int .u32) w A0 l0.length l0) (hc0 : l0.length ≤ c0) (hr1 : Kd.C (Kd.int .u32) w A1 l1.length l1) (hc1 : l1.length ≤ c1) (h : sibylref01_Divide.f k l0 l1 = some (r1, r2)) :
  Calls Try.prog 79 #[.slice A0 l0.length c0, .slice A1 l1.length c1] w fun e w' => ∃ v0_ v1_ : Value, e = .returned (.tuple #[v0_, v1_]) ∧ Kd.R (Kd.int .u32) 99 w' w.heap.size (fun k_ => some k_ ≠ (v1_ : Value).ownBlock) v0_ r1 ∧ Kd.R (Kd.int .u32) 99 w' w.heap.size (fun k_ => some k_ ≠ (v0_ : Value).ownBlock) v1_ r2 ∧ Below w.heap.size w w' := by
 have HR0 := Aside0.mk hr0
 have HC0 := Aside0.mk hc0
 clear hr0 hc0
 have HR1 := Aside0.mk hr1
 have HC1 := Aside0.mk hc1
 clear hr1 hc1
 have HB := Aside0.mk (Below.refl w.heap.size w)
 have H : ((sibylref01_Bits.f k l0).bind fun t460 => (if 0 ≤ (wrap64 ((wrap64 (Int.tdiv t460 32)) + 1)) then (if (wrap64 ((wrap64 (Int.tdiv t460 32)) + 1) : Int).toNat ≤ 70368744177664 then (sibylref01_Divide.l0 k l0 l1 (List.replicate (wrap64 ((wrap64 (Int.tdiv t460 32)) + 1) : Int).toNat 0) ([] : List Int) (wrap64 (t460 - 1))) else (none)) else (none))) = some (r1, r2) := h
 clear h
 obtain ⟨t460, A3, H⟩ := bindA H
 obtain ⟨ji4, hji4⟩ : ∃ j_ : Int, (wrap64 ((wrap64 (Int.tdiv t460 32)) + 1)) = j_ := ⟨_, rfl⟩
 replace H : (if 0 ≤ (ji4) then (if (ji4 : Int).toNat ≤ 70368744177664 then (sibylref01_Divide.l0 k l0 l1 (List.replicate (ji4 : Int).toNat 0) ([] : List Int) (wrap64 (t460 - 1))) else (none)) else (none)) = some (r1, r2) := by first | (rw [hji4] at H; exact H) | (simp only [hji4] at H ⊢; exact H)
 (try rw [hji4] at A3)
 have hji4w : (IntKind.i64.wrap ((wrap64 (Int.tdiv t460 32)) + 1)) = ji4 := (i64_w _).trans hji4
 by_cases c5 : 0 ≤ (ji4)
 ·rw [if_pos c5] at H
  have c5b0 := eq_true c5
  have c5b1 : decide (0 ≤ (ji4)) = true := decide_eq_true c5
  clear c5
  by_cases c6 : (ji4 : Int).toNat ≤ 70368744177664
  ·rw [if_pos c6] at H
   have c6b0 := eq_true c6
   have c6b1 : decide ((ji4 : Int).toNat ≤ 70368744177664) = true := decide_eq_true c6
   clear c6
   obtain ⟨y461, hy461⟩ : ∃ y_ : List Int, y_ = (List.replicate (ji4 : Int).toNat 0) := ⟨_, rfl⟩
   replace H : (sibylref01_Divide.l0 k l0 l1 y461 ([] : List Int) (wrap64 (t460 - 1))) = some (r1, r2) := by rw [hy461]; exact H
   have Ny461 := Aside0.mk hy461
   clear hy461
   have H' := Aside0.mk H
   clear H
   go_enter Try.func79, Try.ntmps79
   go_wp2_with (first | ((with_reducible refine gate_callee (f := 86) rfl ?_); refine goesM (some 11) rfl rfl Try.func86 (by kernel_rfl) rfl #[.slice A0 l0.length c0] rfl (by rfl) ?_; (with_reducible refine (sibylref01_Bits.calls k _ _ l0 t460 _ ?side1 ?side2 A3.out).mono ?_); (case side1 => exact ca HR0.out); (case side2 => exact HC0.out); rintro e w7 ⟨rfl, hb⟩; refine ⟨_, rfl, ?_⟩; have n0_ := Aside0.mk (below_step (bl HB) hb); clear HB; have HB := n0_; clear n0_; (try clear hb); (try clear hb2); (try clear hk); (try clear hi)) | ((with_reducible refine gate_dst (N := 15) rfl ?_); refine Kd.R_make (Kd.int .u32) _ 99 rfl (N := 15) rfl 34 _ _ rfl ji4 rfl rfl Try.underlying34 (.int .u32 0) 4 info99 rfl (by decide) (by omega) 0 (ok := fun _ => True) (okp := fun _ => True) rfl (fun _ hk => hk) trivial (of_decide_eq_true (by first | (with_reducible assumption) | assumption)) (Nat.le_trans (Nat.mul_le_mul_right _ (of_decide_eq_true (by first | (with_reducible assumption) | assumption) : ji4.toNat ≤ 70368744177664)) (by omega)) (Below.refl _ _) (Nat.le_refl _) ?_; intro v462 w8 ho9 hb hg_ hnew_; clear hg_ hnew_; (first | rw [← Ny461.out] at ho9 | (simp only [Int.reduceToNat] at ho9; rw [← Ny461.out] at ho9)); have n_ := mk2 (Kd.R_lower ho9 (below_size (bl HB))) (below_step (bl HB) hb); clear HB; obtain ⟨HO463, HB⟩ := n_; clear hb ho9))
   go_loopg [8, 9] k (fun kq v8 v9 w' => ∃ (x7_1 : List Int) (x8_1 : List Int) (x9_1 : Int), v9 = .int .i64 x9_1 ∧ Aside0 (sibylref01_Divide.l0 kq l0 l1 x7_1 x8_1 x9_1 = some (r1, r2)) ∧ Aside0 (kq ≤ k) ∧ Aside0 (Kd.R (Kd.int .u32) 99 w' w.heap.size (fun k_ => some k_ ≠ (v8 : Value).ownBlock) v462 x7_1) ∧ Aside0 (Kd.R (Kd.int .u32) 99 w' w.heap.size (fun k_ => some k_ ≠ (v462 : Value).ownBlock) v8 x8_1) ∧ Aside0 (Below w.heap.size w w'))
   case atStart => exact ⟨(y461), (([] : List Int)), (wrap64 (t460 - 1)), (by first | rfl | (simp; done) | (simp [*]; done)), H', ⟨Nat.le_refl _⟩, ⟨ra (Kd.R_mono HO463.out (fun _ hk => (by simp [Value.ownBlock])))⟩, ⟨by first | exact Kd.R_nil _ _ _ _ _ | exact Kd.V_nil _ _ _ _ _⟩, ⟨bl HB⟩⟩
   case round =>
    clear H'
    try clear c1
    try clear p2
    try clear c5
    try clear c5b0
    try clear c5b1
    try clear c6
    try clear c6b0
    try clear c6b1
    try clear p6
    try clear c7
    try clear c8
    obtain ⟨x7_1, x8_1, x9_1, rfl, HA, HK1, HO_7, HO_8, HB⟩ := hrel
    cases gk with
    | zero => exact absurd HA.out (by simp [sibylref01_Divide.l0])
    | succ k1 =>
     have H := HA.out
     clear HA
     simp only [sibylref01_Divide.l0] at H
     by_cases c10 : x9_1 ≥ 0
     ·rw [if_pos c10] at H
      have c10b0 : decide (0 ≤ x9_1) = true := decide_eq_true c10
      clear c10
      obtain ⟨t467, A11, H⟩ := bindA H
      obtain ⟨t470, A12, H⟩ := bindA H
      have HC13 := Aside0.mk H
      clear H
      obtain ⟨Ao14, co14, eo14⟩ := Kd.R_slice HO_8.out
      subst eo14
      go_upto_if 26 with (first | ((with_reducible refine gate_callee (f := 69) rfl ?_); refine goesM (some 23) rfl rfl Try.func69 (by kernel_rfl) rfl #[.slice Ao14 x8_1.length co14, .int .i64 1] rfl (by rfl) ?_; (with_reducible refine (sibylref01_Shl.calls k1 _ _ x8_1 1 t467 _ ?side1 ?side2 A11.out).mono ?_); (case side1 => exact ca ((Kd.R_reads' HO_8.out).2.2)); (case side2 => exact (Kd.R_reads' HO_8.out).2.1); rintro e w15 ⟨v468, rfl, ho0, hb⟩; refine ⟨_, rfl, ?_⟩; have n_ := mk4 (Kd.R_elder' (ra HO_7.out) (Kd.R_base ho0) hb) (Kd.R_elder' (ra HO_8.out) (Kd.R_base ho0) hb) (Kd.R_lower (Kd.R_new' (Kd.R_new' ho0 (Kd.R_lt (ra HO_7.out))) (Kd.R_lt (ra HO_8.out))) (below_size (bl HB))) (below_step (bl HB) hb); clear HO_7 HO_8 HB; obtain ⟨HO_7, HO_8, HO469, HB⟩ := n_; (try clear hb); (try clear hb2); (try clear hk); (try clear hi); (try clear ho0)) | ((with_reducible refine gate_callee (f := 95) rfl ?_); refine goesM (some 26) rfl rfl Try.func95 (by kernel_rfl) rfl #[.slice A0 l0.length c0, .int .i64 x9_1] rfl (by rfl) ?_; (with_reducible refine (sibylref01_Bit.calls _ _ l0 x9_1 t470 _ ?side1 ?side2 A12.out).mono ?_); (case side1 => exact ca (Kd.C_below HR0.out HB.out)); (case side2 => exact HC0.out); rintro e w' ⟨rfl, ⟨nd, rfl⟩⟩; refine ⟨_, rfl, ?_⟩))
      (try simp only [Act.put, List.setIfInBounds_toArray, List.set_cons_zero, List.set_cons_succ])
      go_cut [8] (fun v8 wc => ∃ (kq : Nat) (x8_12 : List Int), Aside0 (sibylref01_Divide.j1 kq l0 l1 x7_1 x8_12 x9_1 = some (r1, r2)) ∧ Aside0 (kq ≤ k1) ∧ Aside0 (Kd.R (Kd.int .u32) 99 wc w.heap.size (fun k_ => some k_ ≠ (v8 : Value).ownBlock) v462 x7_1) ∧ Aside0 (Kd.R (Kd.int .u32) 99 wc w.heap.size (fun k_ => some k_ ≠ (v462 : Value).ownBlock) v8 x8_12) ∧ Aside0 (Below w.heap.size w wc))
      case first =>
       have H := HC13.out
       clear HC13
       by_cases c16 : t470 = true
       ·subst c16
        have H1 : ((sibylref01_Plus.f k1 t467 (([1] : List Int))).bind fun t474 => (sibylref01_Divide.j1 k1 l0 l1 x7_1 t474 x9_1)) = some (r1, r2) := by rw [if_pos rfl] at H; exact H
        clear H
        have H := H1
        clear H1
        obtain ⟨y471, hy471⟩ : ∃ y_ : List Int, y_ = (([1] : List Int)) := ⟨_, rfl⟩
        replace H : ((sibylref01_Plus.f k1 t467 y471).bind fun t474 => (sibylref01_Divide.j1 k1 l0 l1 x7_1 t474 x9_1)) = some (r1, r2) := by rw [hy471]; exact H
        have Ny471 := Aside0.mk hy471
        clear hy471
        obtain ⟨t474, A17, H⟩ := bindA H
        have H' := Aside0.mk H
        clear H
        go_wp2_with (first | ((with_reducible refine gate_dst (N := 28) rfl ?_); refine Kd.R_lit (Kd.int .u32) _ 99 ?hg (N := 28) ?hd (xs := ([1] : List Int)) (inner := [.int .u32 1]) (ok := fun _ => True) (okp := fun _ => True) ?hr ?hp (fun _ hk => hk) trivial (Below.refl _ _) (Nat.le_refl _) (by simp) ?_; (case hd => rfl); (case hg => rfl); (case hr => first | (go_simp; done) | (go_simp; rfl)); (case hp => exact (Reps.one (show Kd.M (Kd.int .u32) _ _ _ 1 [.int .u32 1] from rfl) (Reps.none _ _))); intro v472 w18 ho19 hb hg_ hnew_; clear hg_ hnew_; (first | rw [← Ny471.out] at ho19 | (simp only [Int.reduceToNat] at ho19; rw [← Ny471.out] at ho19)); have n_ := mk5 (Kd.R_elder' (ra HO_7.out) (Kd.R_base ho19) hb) (Kd.R_elder' (ra HO_8.out) (Kd.R_base ho19) hb) (Kd.R_elder' (ra HO469.out) (Kd.R_base ho19) hb) (Kd.R_lower (Kd.R_new' (Kd.R_new' (Kd.R_new' ho19 (Kd.R_lt (ra HO_7.out))) (Kd.R_lt (ra HO_8.out))) (Kd.R_lt (ra HO469.out))) (below_size (bl HB))) (below_step (bl HB) hb); clear HO_7 HO_8 HO469 HB; obtain ⟨HO_7, HO_8, HO469, HO473, HB⟩ := n_; clear hb ho19; obtain ⟨Ao20, co20, eo20⟩ := Kd.R_slice HO469.out; subst eo20; obtain ⟨Ao21, co21, eo21⟩ := Kd.R_slice HO473.out; subst eo21) | ((with_reducible refine gate_callee (f := 72) rfl ?_); refine goesM (some 29) rfl rfl Try.func72 (by kernel_rfl) rfl #[.slice Ao20 t467.length co20, .slice Ao21 y471.length co21] rfl (by rfl) ?_; (with_reducible refine (sibylref01_Plus.calls k1 _ _ t467 _ _ y471 t474 _ ?side1 ?side2 ?side3 ?side4 A17.out).mono ?_); (case side1 => exact ca ((Kd.R_reads' HO469.out).2.2)); (case side2 => exact (Kd.R_reads' HO469.out).2.1); (case side3 => exact ca ((Kd.R_reads' HO473.out).2.2)); (case side4 => exact (Kd.R_reads' HO473.out).2.1); rintro e w22 ⟨v475, rfl, ho0, hb⟩; refine ⟨_, rfl, ?_⟩; have n_ := mk6 (Kd.R_elder' (ra HO_7.out) (Kd.R_base ho0) hb) (Kd.R_elder' (ra HO_8.out) (Kd.R_base ho0) hb) (Kd.R_elder' (ra HO469.out) (Kd.R_base ho0) hb) (Kd.R_elder' (ra HO473.out) (Kd.R_base ho0) hb) (Kd.R_lower (Kd.R_new' (Kd.R_new' (Kd.R_new' (Kd.R_new' ho0 (Kd.R_lt (ra HO_7.out))) (Kd.R_lt (ra HO_8.out))) (Kd.R_lt (ra HO469.out))) (Kd.R_lt (ra HO473.out))) (below_size (bl HB))) (below_step (bl HB) hb); clear HO_7 HO_8 HO469 HO473 HB; obtain ⟨HO_7, HO_8, HO469, HO473, HO476, HB⟩ := n_; (try clear hb); (try clear hb2); (try clear hk); (try clear hi); (try clear ho0)))
        go_meet
        case rel => exact ⟨_, (t474), H', ⟨by have := HK1.out; first | omega | exact Nat.le_refl _⟩, ⟨ra (Kd.R_mono HO_7.out (fun _ hk => hk.2))⟩, ⟨ra (Kd.R_mono HO476.out (fun _ hk => hk.1.1.1.2))⟩, ⟨bl HB⟩⟩
       ·replace c16 := Bool.eq_false_iff.mpr c16
        subst c16
        have H1 : (sibylref01_Divide.j1 k1 l0 l1 x7_1 t467 x9_1) = some (r1, r2) := by rw [if_neg (show ¬ (false = true) by decide)] at H; exact H
        clear H
        have H := H1
        clear H1
        have H' := Aside0.mk H
        clear H
        go_wp2
        go_meet
        case rel => exact ⟨_, (t467), H', ⟨by have := HK1.out; first | omega | exact Nat.le_refl _⟩, ⟨ra (Kd.R_mono HO_7.out (fun _ hk => hk.2))⟩, ⟨ra (Kd.R_mono HO469.out (fun _ hk => hk.1.2))⟩, ⟨bl HB⟩⟩
      case rest =>
       clear HC13
       try clear c1
       try clear p2
       try clear c5
       try clear c5b0
       try clear c5b1
       try clear c6
       try clear c6b0
       try clear c6b1
       try clear p6
       try clear c7
       try clear c8
       try clear c9
       try clear c10
       try clear c10b0
       try clear c16
       try clear p2
       try clear p6
       obtain ⟨kq, x8_12, HA, HJ12, HO_7, HO_8, HB⟩ := hcut
       cases kq with
       | zero => exact absurd HA.out (by simp [sibylref01_Divide.j1])
       | succ kj12 =>
        have H := HA.out
        clear HA
        simp only [sibylref01_Divide.j1] at H
        obtain ⟨t477, A23, H⟩ := bindA H
        by_cases c24 : t477 ≥ 0
        ·rw [if_pos c24] at H
         have c24b0 : decide (0 ≤ t477) = true := decide_eq_true c24
         clear c24
         obtain ⟨t478, A25, H⟩ := bindA H
         obtain ⟨ji26, hji26⟩ : ∃ j_ : Int, (wrap64 (Int.tdiv x9_1 32)) = j_ := ⟨_, rfl⟩
         replace H : (if 0 ≤ (ji26) then (if (ji26) < (x7_1.length : Int) then (if 0 ≤ (IntKind.u64.wrap (Int.tmod x9_1 32)) then (sibylref01_Divide.l0 kj12 l0 l1 (x7_1.set ((ji26) : Int).toNat (((rd x7_1 (ji26)) + (shl .u32 1 (IntKind.u64.wrap (Int.tmod x9_1 32)))) % 4294967296)) t478 (wrap64 (x9_1 - 1))) else (none)) else (none)) else (none)) = some (r1, r2) := by first | (rw [hji26] at H; exact H) | (simp only [hji26] at H ⊢; exact H)
         (try rw [hji26] at A23)
         (try rw [hji26] at A25)
         have hji26w : (IntKind.i64.wrap (Int.tdiv x9_1 32)) = ji26 := (i64_w _).trans hji26
         by_cases c27 : 0 ≤ (ji26)
         ·rw [if_pos c27] at H
          have c27b0 : decide (0 ≤ (ji26)) = true := decide_eq_true c27
          clear c27
          by_cases c28 : (ji26) < (x7_1.length : Int)
          ·rw [if_pos c28] at H
           have c28b0 : decide ((ji26) < (x7_1.length : Int)) = true := decide_eq_true c28
           clear c28
           obtain ⟨ji29, hji29⟩ : ∃ j_ : Int, (IntKind.u64.wrap (Int.tmod x9_1 32)) = j_ := ⟨_, rfl⟩
           replace H : (if 0 ≤ (ji29) then (sibylref01_Divide.l0 kj12 l0 l1 (x7_1.set ((ji26) : Int).toNat (((rd x7_1 (ji26)) + (shl .u32 1 (ji29))) % 4294967296)) t478 (wrap64 (x9_1 - 1))) else (none)) = some (r1, r2) := by first | (rw [hji29] at H; exact H) | (simp only [hji29] at H ⊢; exact H)
           (try rw [hji29] at A23)
           (try rw [hji29] at A25)
           by_cases c30 : 0 ≤ (ji29)
           ·rw [if_pos c30] at H
            have c30b0 := eq_true c30
            have c30b1 : decide (0 ≤ (ji29)) = true := decide_eq_true c30
            clear c30
            obtain ⟨ji31, hji31⟩ : ∃ j_ : Int, (shl .u32 1 (ji29)) = j_ := ⟨_, rfl⟩
            replace H : (sibylref01_Divide.l0 kj12 l0 l1 (x7_1.set ((ji26) : Int).toNat (((rd x7_1 (ji26)) + (ji31)) % 4294967296)) t478 (wrap64 (x9_1 - 1))) = some (r1, r2) := by first | (rw [hji31] at H; exact H) | (simp only [hji31] at H ⊢; exact H)
            (try rw [hji31] at A23)
            (try rw [hji31] at A25)
            have hji31_ : (IntKind.u32.wrap (1 * 2 ^ min (ji29).toNat 32)) = ji31 := hji31
            have hji31z : (ji29) ≤ 32 → (IntKind.u32.wrap (1 * 2 ^ (ji29).toNat)) = ji31 := shl_small hji31
            have hji31u : (IntKind.u32.wrap (2 ^ min (ji29).toNat 32)) = ji31 := by have h_ := hji31_; rw [Int.one_mul] at h_; exact h_
            have hji31v : (ji29) ≤ 32 → (IntKind.u32.wrap (2 ^ (ji29).toNat)) = ji31 := fun hle_ => by have h_ := hji31z hle_; rw [Int.one_mul] at h_; exact h_
            obtain ⟨y482, hy482⟩ : ∃ y_ : List Int, y_ = (x7_1.set ((ji26) : Int).toNat (((rd x7_1 (ji26)) + (ji31)) % 4294967296)) := ⟨_, rfl⟩
            replace H : (sibylref01_Divide.l0 kj12 l0 l1 y482 t478 (wrap64 (x9_1 - 1))) = some (r1, r2) := by rw [hy482]; exact H
            have Ny482 := Aside0.mk hy482
            clear hy482
            have H' := Aside0.mk H
            clear H
            obtain ⟨Ao33, co33, eo33⟩ := Kd.R_slice HO_8.out
            subst eo33
            go_wp2_with (first | ((with_reducible refine gate_callee (f := 70) rfl ?_); refine goesM (some 32) rfl rfl Try.func70 (by kernel_rfl) rfl #[.slice Ao33 x8_12.length co33, .slice A1 l1.length c1] rfl (by rfl) ?_; (with_reducible refine (sibylref01_Cmp.calls kj12 _ _ x8_12 _ _ l1 t477 _ ?side1 ?side2 ?side3 ?side4 A23.out).mono ?_); (case side1 => exact ca ((Kd.R_reads' HO_8.out).2.2)); (case side2 => exact (Kd.R_reads' HO_8.out).2.1); (case side3 => exact ca (Kd.C_below HR1.out HB.out)); (case side4 => exact HC1.out); rintro e w34 ⟨rfl, hb⟩; refine ⟨_, rfl, ?_⟩; have n_ := mk3 (Kd.R_below (ra HO_7.out) hb) (Kd.R_below (ra HO_8.out) hb) (below_step (bl HB) hb); clear HO_7 HO_8 HB; obtain ⟨HO_7, HO_8, HB⟩ := n_; (try clear hb); (try clear hb2); (try clear hk); (try clear hi)) | ((with_reducible refine gate_callee (f := 71) rfl ?_); refine goesM (some 36) rfl rfl Try.func71 (by kernel_rfl) rfl #[.slice Ao33 x8_12.length co33, .slice A1 l1.length c1] rfl (by rfl) ?_; (with_reducible refine (sibylref01_Minus.calls kj12 _ _ x8_12 _ _ l1 t478 _ ?side1 ?side2 ?side3 ?side4 A25.out).mono ?_); (case side1 => exact ca ((Kd.R_reads' HO_8.out).2.2)); (case side2 => exact (Kd.R_reads' HO_8.out).2.1); (case side3 => exact ca (Kd.C_below HR1.out HB.out)); (case side4 => exact HC1.out); rintro e w35 ⟨v479, rfl, ho0, hb⟩; refine ⟨_, rfl, ?_⟩; have n_ := mk4 (Kd.R_elder' (ra HO_7.out) (Kd.R_base ho0) hb) (Kd.R_elder' (ra HO_8.out) (Kd.R_base ho0) hb) (Kd.R_lower (Kd.R_new' (Kd.R_new' ho0 (Kd.R_lt (ra HO_7.out))) (Kd.R_lt (ra HO_8.out))) (below_size (bl HB))) (below_step (bl HB) hb); clear HO_7 HO_8 HB; obtain ⟨HO_7, HO_8, HO480, HB⟩ := n_; (try clear hb); (try clear hb2); (try clear hk); (try clear hi); (try clear ho0); obtain ⟨Ao36, co36, eo36⟩ := Kd.R_slice HO_7.out; subst eo36; have p481 : 0 ≤ ((ji26) : Int) := of_decide_eq_true (by first | (with_reducible assumption) | assumption); have q481 : (ji26) < (x7_1.length : Int) := of_decide_eq_true (by first | (with_reducible assumption) | assumption); obtain ⟨ad481, e481, hx481_0⟩ := Kd.at_int (Kd.R_reads' HO_7.out).2.2 (ji26) p481 q481; cases e481; replace p481 := eq_true p481; replace q481 := eq_true q481; have p32 : 0 ≤ ((ji26) : Int) := of_decide_eq_true (by first | (with_reducible assumption) | assumption); have q32 : ((ji26) : Int) < ((x7_1.length : Int) : Int) := of_decide_eq_true (by first | (with_reducible assumption) | assumption); obtain ⟨go32, co32, eo32, gb32, gl32, cl32, HG32⟩ := Kd.R_form HO_7.out (by omega); (first | cases eo32 | (injection eo32 with ea_ en_ ec_; (first | subst ea_ | (injection ea_ with ea_; subst ea_)); subst ec_; clear en_)); have GB32 := Aside0.mk gb32; have GG32 := Aside0.mk HG32; clear gb32 gl32 HG32; (first | simp only [add_plain] at hx481_0 | skip); obtain ⟨hx32_0, hf32_0⟩ := Kd.R_celln 0 HO_7.out ((ji26) : Int) p32 q32; replace p32 := eq_true p32; replace q32 := eq_true q32; obtain ⟨hy37_, hz37_⟩ := Kd.R_celln 0 HO_7.out ((ji26) : Int) (of_decide_eq_true (by first | (with_reducible assumption) | assumption)) (of_decide_eq_true (by first | (with_reducible assumption) | assumption)); have HP37 := Kd.R_putg HO_7.out ((ji26) : Int) (((rd x7_1 (ji26)) + (ji31)) % 4294967296)) | ((with_reducible refine gate_store (t := 99) (p := 47) rfl ?_); refine store_event (t := 99) (p := 47) (v := ?vo_w38) (w1 := (w35.setCell ⟨go32, ((ji26) : Int).toNat, none⟩ (.int .u32 (((rd x7_1 (ji26)) + (ji31)) % 4294967296)))) ?hg ?ho ?hn ?hr ?_; (case ho => rfl); (case hg => rfl); (case hn => rfl); (case hr => first | (go_simp; done) | (go_simp; rfl)); intro w38 hw; have hg : w35.grownBy w38 (some go32) := (by rw [hw]; exact HP37.2); have hp_ : Kd.R (Kd.int .u32) 99 w38 w.heap.size (fun k_ => some k_ ≠ (.slice Ao33 x8_12.length co33 : Value).ownBlock ∧ some k_ ≠ (v479 : Value).ownBlock) (.slice (some ⟨go32, 0, none⟩) x7_1.length co36) y482 := (by rw [hw, Ny482.out]; exact HP37.1); clear HP37; have n_ := mk4 (hp_) (Kd.R_after (v := (.slice (some ⟨go32, 0, none⟩) x7_1.length co36)) (v1 := (.slice (some ⟨go32, 0, none⟩) x7_1.length co36)) (ok := (fun k_ => some k_ ≠ (v479 : Value).ownBlock)) (ra (Kd.R_mono HO_8.out (fun _ hk => ⟨hk.2, hk.1⟩))) hg (.inl rfl)) (Kd.R_after (v := (.slice (some ⟨go32, 0, none⟩) x7_1.length co36)) (v1 := (.slice (some ⟨go32, 0, none⟩) x7_1.length co36)) (ok := (fun k_ => some k_ ≠ (.slice Ao33 x8_12.length co33 : Value).ownBlock)) (ra (Kd.R_mono HO480.out (fun _ hk => ⟨hk.2, hk.1.2⟩))) hg (.inl rfl)) ((by rw [hw]; exact below_set (HB.out) GB32.out : Below w.heap.size w w38)); clear HO_7 HO_8 HO480 HB; obtain ⟨HO_7, HO_8, HO480, HB⟩ := n_; clear hg hw hp_))
            go_roundg kj12
            case measure => have := HK1.out; have := HJ12.out; omega
            case rel => exact ⟨(y482), (t478), (wrap64 (x9_1 - 1)), (by first | rfl | (simp; done) | (simp [*]; done)), H', ⟨by have := HK1.out; have := HJ12.out; omega⟩, ⟨ra (Kd.R_mono HO_7.out (fun _ hk => hk.2))⟩, ⟨ra (Kd.R_mono HO480.out (fun _ hk => hk.2))⟩, ⟨bl HB⟩⟩
           ·rw [if_neg c30] at H
            exact absurd H (by simp)
          ·rw [if_neg c28] at H
           exact absurd H (by simp)
         ·rw [if_neg c27] at H
          exact absurd H (by simp)
        ·rw [if_neg c24] at H
         have c24b0 : decide (0 ≤ t477) = false := decide_eq_false c24
         clear c24
         have H' := Aside0.mk H
         clear H
         obtain ⟨Ao39, co39, eo39⟩ := Kd.R_slice HO_8.out
         subst eo39
         go_wp2_with (first | ((with_reducible refine gate_callee (f := 70) rfl ?_); refine goesM (some 32) rfl rfl Try.func70 (by kernel_rfl) rfl #[.slice Ao39 x8_12.length co39, .slice A1 l1.length c1] rfl (by rfl) ?_; (with_reducible refine (sibylref01_Cmp.calls kj12 _ _ x8_12 _ _ l1 t477 _ ?side1 ?side2 ?side3 ?side4 A23.out).mono ?_); (case side1 => exact ca ((Kd.R_reads' HO_8.out).2.2)); (case side2 => exact (Kd.R_reads' HO_8.out).2.1); (case side3 => exact ca (Kd.C_below HR1.out HB.out)); (case side4 => exact HC1.out); rintro e w40 ⟨rfl, hb⟩; refine ⟨_, rfl, ?_⟩; have n_ := mk3 (Kd.R_below (ra HO_7.out) hb) (Kd.R_below (ra HO_8.out) hb) (below_step (bl HB) hb); clear HO_7 HO_8 HB; obtain ⟨HO_7, HO_8, HB⟩ := n_; (try clear hb); (try clear hb2); (try clear hk); (try clear hi)))
         go_roundg kj12
         case measure => have := HK1.out; have := HJ12.out; omega
         case rel => exact ⟨(x7_1), (x8_12), (wrap64 (x9_1 - 1)), (by first | rfl | (simp; done) | (simp [*]; done)), H', ⟨by have := HK1.out; have := HJ12.out; omega⟩, ⟨ra HO_7.out⟩, ⟨ra HO_8.out⟩, ⟨bl HB⟩⟩
     ·rw [if_neg c10] at H
      have c10b0 : decide (0 ≤ x9_1) = false := decide_eq_false c10
      clear c10
      obtain ⟨t464, A41, H⟩ := bindA H
      simp only [Option.some.injEq, Prod.mk.injEq] at H
      obtain ⟨rfl, rfl⟩ := H
      obtain ⟨Ao42, co42, eo42⟩ := Kd.R_slice HO_7.out
      subst eo42
      go_wp2_with (first | ((with_reducible refine gate_callee (f := 83) rfl ?_); refine goesM (some 49) rfl rfl Try.func83 (by kernel_rfl) rfl #[.slice Ao42 x7_1.length co42] rfl (by rfl) ?_; (with_reducible refine (sibylref01_Trim.calls k1 _ _ x7_1 t464 _ ?side1 ?side2 A41.out).mono ?_); (case side1 => exact ca ((Kd.R_reads' HO_7.out).2.2)); (case side2 => exact (Kd.R_reads' HO_7.out).2.1); rintro e w43 ⟨v465, rfl, ho0, hb⟩; refine ⟨_, rfl, ?_⟩; have n_ := mk4 (Kd.R_elder' (ra HO_7.out) (Kd.R_base ho0) hb) (Kd.R_elder' (ra HO_8.out) (Kd.R_base ho0) hb) (Kd.R_lower (Kd.R_new' (Kd.R_new' ho0 (Kd.R_lt (ra HO_7.out))) (Kd.R_lt (ra HO_8.out))) (below_size (bl HB))) (below_step (bl HB) hb); clear HO_7 HO_8 HB; obtain ⟨HO_7, HO_8, HO466, HB⟩ := n_; (try clear hb); (try clear hb2); (try clear hk); (try clear hi); (try clear ho0)))
      go_ret2
      exact ⟨_, _, by first | rfl | (simp [errW_none, errW_some] <;> rfl) | (simp only [← hji4]; first | rfl | (simp [errW_none, errW_some] <;> rfl)) | (simp [*, errW_none, errW_some] <;> rfl), ra (Kd.R_mono HO466.out (fun _ hk => hk.2)), ra (Kd.R_mono HO_8.out (fun _ hk => hk.2)), bl HB⟩
  ·rw [if_neg c6] at H
   exact absurd H (by simp)
 ·rw [if_neg c5] at H
  exact absurd H (by simp)
def sibylref21_Div.j0 : Nat → Int → Int → Bool → Option (Int)
 | 0, _, _, _ => none
 | k + 1, x0, x1, x20 => if x20 = true then (some 0) else ((sibylref03_Parts.f k x0).bind fun bt483 => ((sibylref03_Parts.f k x1).bind fun bt487 => ((sibylref21_natural.f bt483.2.1).bind fun t491 => ((sibylref01_Shl.f k t491 128).bind fun t494 => ((sibylref21_natural.f bt487.2.1).bind fun t497 => ((sibylref01_Divide.f k t494 t497).bind fun bt500 => ((sibylref21_round.f k false bt500.1 (wrap64 ((wrap64 (bt483.2.2.1 - bt487.2.2.1)) - 128)) (decide ((bt500.2.length : Int) > 0))).bind fun t506 => (some t506))))))))
def sibylref21_Div.f (k : Nat) (a0 : Int) (a1 : Int) : Option (Int) := if a0 = 0 then (sibylref21_Div.j0 k a0 a1 true) else (sibylref21_Div.j0 k a0 a1 (a1 == 9218868437227405312))
set_option maxHeartbeats 8000000 in
set_option maxRecDepth 100000 in
theorem sibylref21_Div.calls (k : Nat) (a0 : Int) (a1 : Int) (r : Int) (w : World) (h : sibylref21_Div.f k a0 a1 = some r) :
  Calls Try.prog 52 #[.int .u64 a0, .int .u64 a1] w fun e w' => e = .returned (.int .u64 r) ∧ Below w.heap.size w w' := by
 have HB := Aside0.mk (Below.refl w.heap.size w)
 have H : (if a0 = 0 then (sibylref21_Div.j0 k a0 a1 true) else (sibylref21_Div.j0 k a0 a1 (a1 == 9218868437227405312))) = some r := h
 clear h
 have HC3 := Aside0.mk H
 clear H
 go_enter Try.func52, Try.ntmps52
 go_upto_region 1 with (fail)
 go_cut [20] (fun v20 wc => ∃ (kq : Nat) (x20_2 : Bool), v20 = .bool x20_2 ∧ Aside0 (sibylref21_Div.j0 kq a0 a1 x20_2 = some r) ∧ Aside0 (kq ≤ k) ∧ Aside0 (Below w.heap.size w wc))
 case first =>
  have H := HC3.out
  clear HC3
  by_cases c4 : a0 = 0
  ·rw [if_pos c4] at H
   have c4b0 : (a0 == 0) = true := beq_iff_eq.mpr c4
   have c4b1 : (a0 != 0) = false := bne_eq_false_iff_eq.mpr c4
   clear c4
   (first | rw [c4b0] | (simp only [i64_w, i32_w]; rw [c4b0]) | skip)
   have H' := Aside0.mk H
   clear H
   go_wp2
   go_meet
   case rel => exact ⟨_, (true), (by first | rfl | (simp; done) | (simp [*]; done)), H', ⟨by first | omega | exact Nat.le_refl _⟩, ⟨bl HB⟩⟩
  ·rw [if_neg c4] at H
   have c4b0 : (a0 == 0) = false := beq_eq_false_iff_ne.mpr c4
   have c4b1 : (a0 != 0) = true := bne_iff_ne.mpr c4
   (first | rw [c4b0] | (simp only [i64_w, i32_w]; rw [c4b0]) | skip)
   have H' := Aside0.mk H
   clear H
   go_wp2
   go_meet
   case rel => exact ⟨_, ((a1 == 9218868437227405312)), (by first | rfl | (simp; done) | (simp [*]; done)), H', ⟨by first | omega | exact Nat.le_refl _⟩, ⟨bl HB⟩⟩
 case rest =>
  clear HC3
  try clear p2
  try clear c4
  try clear c4b0
  try clear c4b1
  obtain ⟨kq, x20_2, rfl, HA, HJ2, HB⟩ := hcut
  cases kq with
  | zero => exact absurd HA.out (by simp [sibylref21_Div.j0])
  | succ kj2 =>
   have H := HA.out
   clear HA
   simp only [sibylref21_Div.j0] at H
   by_cases c5 : x20_2 = true
   ·subst c5
    have H1 : (some 0) = some r := by rw [if_pos rfl] at H; exact H
    clear H
    have H := H1
    clear H1
    obtain rfl := Option.some.inj H
    go_wp2
    go_ret
    exact ⟨by first | rfl | simp [*], bl HB⟩
   ·replace c5 := Bool.eq_false_iff.mpr c5
    subst c5
    have H1 : ((sibylref03_Parts.f kj2 a0).bind fun bt483 => ((sibylref03_Parts.f kj2 a1).bind fun bt487 => ((sibylref21_natural.f bt483.2.1).bind fun t491 => ((sibylref01_Shl.f kj2 t491 128).bind fun t494 => ((sibylref21_natural.f bt487.2.1).bind fun t497 => ((sibylref01_Divide.f kj2 t494 t497).bind fun bt500 => ((sibylref21_round.f kj2 false bt500.1 (wrap64 ((wrap64 (bt483.2.2.1 - bt487.2.2.1)) - 128)) (decide ((bt500.2.length : Int) > 0))).bind fun t506 => (some t506)))))))) = some r := by rw [if_neg (show ¬ (false = true) by decide)] at H; exact H
    clear H
    have H := H1
    clear H1
    obtain ⟨⟨t483, t484, t485, t486⟩, A6, H⟩ := bindA H
    dsimp only at H
    obtain ⟨⟨t487, t488, t489, t490⟩, A7, H⟩ := bindA H
    dsimp only at H
    obtain ⟨t491, A8, H⟩ := bindA H
    obtain ⟨t494, A9, H⟩ := bindA H
    obtain ⟨t497, A10, H⟩ := bindA H
    obtain ⟨⟨t500, t501⟩, A11, H⟩ := bindA H
    dsimp only at H
    obtain ⟨t506, A12, H⟩ := bindA H
    obtain rfl := Option.some.inj H
    rw [show decide ((t501.length : Int) > 0) = decide (0 < t501.length) from decide_eq_decide.2 (by omega)] at A12
    go_wp2_with (first | ((with_reducible refine gate_callee (f := 60) rfl ?_); refine goesM (some 23) rfl rfl Try.func60 (by kernel_rfl) rfl #[.int .u64 a0] rfl (by rfl) ?_; (with_reducible refine (sibylref03_Parts.calls kj2 a0 t483 t484 t485 t486 _ A6.out).mono ?_); rintro e w' ⟨rfl, ⟨nd, rfl⟩⟩; refine ⟨_, rfl, ?_⟩) | ((with_reducible refine gate_callee (f := 60) rfl ?_); refine goesM (some 30) rfl rfl Try.func60 (by kernel_rfl) rfl #[.int .u64 a1] rfl (by rfl) ?_; (with_reducible refine (sibylref03_Parts.calls kj2 a1 t487 t488 t489 t490 _ A7.out).mono ?_); rintro e w' ⟨rfl, ⟨nd, rfl⟩⟩; refine ⟨_, rfl, ?_⟩) | ((with_reducible refine gate_callee (f := 63) rfl ?_); refine goesM (some 37) rfl rfl Try.func63 (by kernel_rfl) rfl #[.int .u64 t484] rfl (by rfl) ?_; (with_reducible refine (sibylref21_natural.calls t484 t491 _ A8.out).mono ?_); rintro e w13 ⟨v492, rfl, ho0, hb⟩; refine ⟨_, rfl, ?_⟩; have n_ := mk2 (Kd.R_lower ho0 (below_size (bl HB))) (below_step (bl HB) hb); clear HB; obtain ⟨HO493, HB⟩ := n_; (try clear hb); (try clear hb2); (try clear hk); (try clear hi); (try clear ho0); obtain ⟨Ao14, co14, eo14⟩ := Kd.R_slice HO493.out; subst eo14) | ((with_reducible refine gate_callee (f := 69) rfl ?_); refine goesM (some 38) rfl rfl Try.func69 (by kernel_rfl) rfl #[.slice Ao14 t491.length co14, .int .i64 128] rfl (by rfl) ?_; (with_reducible refine (sibylref01_Shl.calls kj2 _ _ t491 128 t494 _ ?side1 ?side2 A9.out).mono ?_); (case side1 => exact ca ((Kd.R_reads' HO493.out).2.2)); (case side2 => exact (Kd.R_reads' HO493.out).2.1); rintro e w15 ⟨v495, rfl, ho0, hb⟩; refine ⟨_, rfl, ?_⟩; have n_ := mk3 (Kd.R_elder' (ra HO493.out) (Kd.R_base ho0) hb) (Kd.R_lower (Kd.R_new' ho0 (Kd.R_lt (ra HO493.out))) (below_size (bl HB))) (below_step (bl HB) hb); clear HO493 HB; obtain ⟨HO493, HO496, HB⟩ := n_; (try clear hb); (try clear hb2); (try clear hk); (try clear hi); (try clear ho0)) | ((with_reducible refine gate_callee (f := 63) rfl ?_); refine goesM (some 40) rfl rfl Try.func63 (by kernel_rfl) rfl #[.int .u64 t488] rfl (by rfl) ?_; (with_reducible refine (sibylref21_natural.calls t488 t497 _ A10.out).mono ?_); rintro e w16 ⟨v498, rfl, ho0, hb⟩; refine ⟨_, rfl, ?_⟩; have n_ := mk4 (Kd.R_elder' (ra HO493.out) (Kd.R_base ho0) hb) (Kd.R_elder' (ra HO496.out) (Kd.R_base ho0) hb) (Kd.R_lower (Kd.R_new' (Kd.R_new' ho0 (Kd.R_lt (ra HO493.out))) (Kd.R_lt (ra HO496.out))) (below_size (bl HB))) (below_step (bl HB) hb); clear HO493 HO496 HB; obtain ⟨HO493, HO496, HO499, HB⟩ := n_; (try clear hb); (try clear hb2); (try clear hk); (try clear hi); (try clear ho0); obtain ⟨Ao17, co17, eo17⟩ := Kd.R_slice HO496.out; subst eo17; obtain ⟨Ao18, co18, eo18⟩ := Kd.R_slice HO499.out; subst eo18) | ((with_reducible refine gate_callee (f := 79) rfl ?_); refine goesM (some 41) rfl rfl Try.func79 (by kernel_rfl) rfl #[.slice Ao17 t494.length co17, .slice Ao18 t497.length co18] rfl (by rfl) ?_; (with_reducible refine (sibylref01_Divide.calls kj2 _ _ t494 _ _ t497 t500 t501 _ ?side1 ?side2 ?side3 ?side4 A11.out).mono ?_); (case side1 => exact ca ((Kd.R_reads' HO496.out).2.2)); (case side2 => exact (Kd.R_reads' HO496.out).2.1); (case side3 => exact ca ((Kd.R_reads' HO499.out).2.2)); (case side4 => exact (Kd.R_reads' HO499.out).2.1); rintro e w19 ⟨v502, v504, rfl, ho0, ho1, hb⟩; refine ⟨_, rfl, ?_⟩; have n_ := mk6 (Kd.R_mono (Kd.R_told (Kd.R_told (Kd.R_old (ra HO493.out) hb) (Kd.R_base ho0)) (Kd.R_base ho1)) (fun _ h_ => h_.1)) (Kd.R_mono (Kd.R_told (Kd.R_told (Kd.R_old (ra HO496.out) hb) (Kd.R_base ho0)) (Kd.R_base ho1)) (fun _ h_ => h_.1)) (Kd.R_mono (Kd.R_told (Kd.R_told (Kd.R_old (ra HO499.out) hb) (Kd.R_base ho0)) (Kd.R_base ho1)) (fun _ h_ => h_.1)) (Kd.R_lower (Kd.R_new' (Kd.R_new' (Kd.R_new' ho0 (Kd.R_lt (ra HO493.out))) (Kd.R_lt (ra HO496.out))) (Kd.R_lt (ra HO499.out))) (below_size (bl HB))) (Kd.R_lower (Kd.R_new' (Kd.R_new' (Kd.R_new' ho1 (Kd.R_lt (ra HO493.out))) (Kd.R_lt (ra HO496.out))) (Kd.R_lt (ra HO499.out))) (below_size (bl HB))) (below_step (bl HB) hb); clear HO493 HO496 HO499 HB; obtain ⟨HO493, HO496, HO499, HO503, HO505, HB⟩ := n_; (try clear hb); (try clear hb2); (try clear hk); (try clear hi); (try clear ho0); (try clear ho1); obtain ⟨Ao20, co20, eo20⟩ := Kd.R_slice HO505.out; subst eo20; obtain ⟨Ao21, co21, eo21⟩ := Kd.R_slice HO503.out; subst eo21) | ((with_reducible refine gate_callee (f := 61) rfl ?_); refine goesM (some 52) rfl rfl Try.func61 (by kernel_rfl) rfl #[.bool false, .slice Ao21 t500.length co21, .int .i64 (wrap64 ((wrap64 (t485 - t489)) - 128)), .bool (decide (0 < t501.length))] rfl (by rfl) ?_; (with_reducible refine (sibylref21_round.calls kj2 false (fun k_ => some k_ = (.slice Ao21 t500.length co21 : Value).ownBlock) (.slice Ao21 t500.length co21) t500 (wrap64 ((wrap64 (t485 - t489)) - 128)) (decide (0 < t501.length)) t506 w _ ?side1 ?side2 A12.out).mono ?_); (case side1 => exact bl HB); (case side2 => exact Kd.R_tight rfl HO503.out); rintro e w22 ⟨rfl, hb, hkp⟩; refine ⟨_, rfl, ?_⟩; have n_ := mk5 (Kd.R_mono (ok' := fun k_ => some k_ ≠ (.slice Ao17 t494.length co17 : Value).ownBlock ∧ some k_ ≠ (.slice Ao18 t497.length co18 : Value).ownBlock ∧ some k_ ≠ (.slice Ao20 t501.length co20 : Value).ownBlock) (Kd.R_keptB (HO493.out) hkp (fun k_ hk_ hs_ => (hk_.1.2) hs_)) (fun k_ hk_ => ⟨hk_.1.1.1.1.2, hk_.1.1.1.2, hk_.1.2⟩)) (Kd.R_mono (ok' := fun k_ => some k_ ≠ (.slice Ao14 t491.length co14 : Value).ownBlock ∧ some k_ ≠ (.slice Ao18 t497.length co18 : Value).ownBlock ∧ some k_ ≠ (.slice Ao20 t501.length co20 : Value).ownBlock) (Kd.R_keptB (HO496.out) hkp (fun k_ hk_ hs_ => (hk_.1.2) hs_)) (fun k_ hk_ => ⟨hk_.1.1.1.1.2, hk_.1.1.1.2, hk_.1.2⟩)) (Kd.R_mono (ok' := fun k_ => some k_ ≠ (.slice Ao14 t491.length co14 : Value).ownBlock ∧ some k_ ≠ (.slice Ao17 t494.length co17 : Value).ownBlock ∧ some k_ ≠ (.slice Ao20 t501.length co20 : Value).ownBlock) (Kd.R_keptB (HO499.out) hkp (fun k_ hk_ hs_ => (hk_.1.2) hs_)) (fun k_ hk_ => ⟨hk_.1.1.1.1.2, hk_.1.1.1.2, hk_.1.2⟩)) (Kd.R_mono (ok' := fun k_ => some k_ ≠ (.slice Ao14 t491.length co14 : Value).ownBlock ∧ some k_ ≠ (.slice Ao17 t494.length co17 : Value).ownBlock ∧ some k_ ≠ (.slice Ao18 t497.length co18 : Value).ownBlock) (Kd.R_keptB (HO505.out) hkp (fun k_ hk_ hs_ => (hk_.1.1.1) hs_)) (fun k_ hk_ => ⟨hk_.1.1.1.2, hk_.1.1.2, hk_.1.2⟩)) (hb); clear HO493 HO496 HO499 HO505 HB HO503; obtain ⟨HO493, HO496, HO499, HO505, HB⟩ := n_; (try clear hb); (try clear hkp)))
    go_ret
    exact ⟨by first | rfl | simp [*], bl HB⟩
def sibylref21_Int.f (k : Nat) (a0 : Int) : Option (Int) := (sibylref03_Join.f k false (IntKind.u64.wrap (a0)) 0).bind fun t393 => (some t393)
set_option maxHeartbeats 8000000 in
set_option maxRecDepth 100000 in
theorem sibylref21_Int.calls (k : Nat) (a0 : Int) (r : Int) (w : World) (h : sibylref21_Int.f k a0 = some r) :
  Calls Try.prog 30 #[.int .i64 a0] w fun e w' => e = .returned (.int .u64 r) ∧ Drawn0 w w' := by
 have H : ((sibylref03_Join.f k false (IntKind.u64.wrap (a0)) 0).bind fun t393 => (some t393)) = some r := h
 clear h
 obtain ⟨t393, A2, H⟩ := bindA H
 obtain rfl := Option.some.inj H
 go_enter Try.func30, Try.ntmps30
 go_wp2_with (first | ((with_reducible refine gate_callee (f := 59) rfl ?_); refine goesM (some 5) rfl rfl Try.func59 (by kernel_rfl) rfl #[.bool false, .int .u64 (IntKind.u64.wrap (a0)), .int .i64 0] rfl (by rfl) ?_; (with_reducible refine (sibylref03_Join.calls k false (IntKind.u64.wrap (a0)) 0 t393 _ A2.out).mono ?_); rintro e w' ⟨rfl, ⟨nd, rfl⟩⟩; refine ⟨_, rfl, ?_⟩))
 go_ret
 exact ⟨by first | rfl | (simp; done) | (simp [*]; done), by repeat (first | exact Drawn0.refl _ | apply Drawn0.step)⟩
def sibylref10_Key.f (a0 : Int) : Option (Int) := (sibylref03_IsNaN.f a0).bind fun t454 => (if t454 = true then (some 0) else (if a0 ≥ 9223372036854775808 then ((sibylref03_Size.f a0).bind fun t455 => (some (IntKind.u64.wrap ((IntKind.u64.wrap (9218868437227405312 - t455)) + 1)))) else (some (IntKind.u64.wrap ((IntKind.u64.wrap (9218868437227405312 + a0)) + 2)))))
set_option maxHeartbeats 8000000 in
set_option maxRecDepth 100000 in
theorem sibylref10_Key.calls (a0 : Int) (r : Int) (w : World) (h : sibylref10_Key.f a0 = some r) :
  Calls Try.prog 77 #[.int .u64 a0] w fun e w' => e = .returned (.int .u64 r) ∧ Drawn0 w w' := by
 have H : ((sibylref03_IsNaN.f a0).bind fun t454 => (if t454 = true then (some 0) else (if a0 ≥ 9223372036854775808 then ((sibylref03_Size.f a0).bind fun t455 => (some (IntKind.u64.wrap ((IntKind.u64.wrap (9218868437227405312 - t455)) + 1)))) else (some (IntKind.u64.wrap ((IntKind.u64.wrap (9218868437227405312 + a0)) + 2)))))) = some r := h
 clear h
 obtain ⟨t454, A2, H⟩ := bindA H
 by_cases c3 : t454 = true
 ·subst c3
  have H1 : (some 0) = some r := by rw [if_pos rfl] at H; exact H
  clear H
  have H := H1
  clear H1
  obtain rfl := Option.some.inj H
  go_enter Try.func77, Try.ntmps77
  go_wp2_with (first | ((with_reducible refine gate_callee (f := 22) rfl ?_); refine goesM (some 4) rfl rfl Try.func22 (by kernel_rfl) rfl #[.int .u64 a0] rfl (by rfl) ?_; (with_reducible refine (sibylref03_IsNaN.calls a0 true _ A2.out).mono ?_); rintro e w' ⟨rfl, ⟨nd, rfl⟩⟩; refine ⟨_, rfl, ?_⟩))
  go_ret
  exact ⟨by first | rfl | (simp; done) | (simp [*]; done), by repeat (first | exact Drawn0.refl _ | apply Drawn0.step)⟩
 ·replace c3 := Bool.eq_false_iff.mpr c3
  subst c3
  have H1 : (if a0 ≥ 9223372036854775808 then ((sibylref03_Size.f a0).bind fun t455 => (some (IntKind.u64.wrap ((IntKind.u64.wrap (9218868437227405312 - t455)) + 1)))) else (some (IntKind.u64.wrap ((IntKind.u64.wrap (9218868437227405312 + a0)) + 2)))) = some r := by rw [if_neg (show ¬ (false = true) by decide)] at H; exact H
  clear H
  have H := H1
  clear H1
  by_cases c4 : a0 ≥ 9223372036854775808
  ·rw [if_pos c4] at H
   have c4b0 : decide (9223372036854775808 ≤ a0) = true := decide_eq_true c4
   clear c4
   obtain ⟨t455, A5, H⟩ := bindA H
   obtain rfl := Option.some.inj H
   go_enter Try.func77, Try.ntmps77
   go_wp2_with (first | ((with_reducible refine gate_callee (f := 22) rfl ?_); refine goesM (some 4) rfl rfl Try.func22 (by kernel_rfl) rfl #[.int .u64 a0] rfl (by rfl) ?_; (with_reducible refine (sibylref03_IsNaN.calls a0 false _ A2.out).mono ?_); rintro e w' ⟨rfl, ⟨nd, rfl⟩⟩; refine ⟨_, rfl, ?_⟩) | ((with_reducible refine gate_callee (f := 49) rfl ?_); refine goesM (some 8) rfl rfl Try.func49 (by kernel_rfl) rfl #[.int .u64 a0] rfl (by rfl) ?_; (with_reducible refine (sibylref03_Size.calls a0 t455 _ A5.out).mono ?_); rintro e w' ⟨rfl, ⟨nd, rfl⟩⟩; refine ⟨_, rfl, ?_⟩))
   go_ret
   exact ⟨by first | rfl | (simp; done) | (simp [*]; done), by repeat (first | exact Drawn0.refl _ | apply Drawn0.step)⟩
  ·rw [if_neg c4] at H
   have c4b0 : decide (9223372036854775808 ≤ a0) = false := decide_eq_false c4
   clear c4
   obtain rfl := Option.some.inj H
   go_enter Try.func77, Try.ntmps77
   go_wp2_with (first | ((with_reducible refine gate_callee (f := 22) rfl ?_); refine goesM (some 4) rfl rfl Try.func22 (by kernel_rfl) rfl #[.int .u64 a0] rfl (by rfl) ?_; (with_reducible refine (sibylref03_IsNaN.calls a0 false _ A2.out).mono ?_); rintro e w' ⟨rfl, ⟨nd, rfl⟩⟩; refine ⟨_, rfl, ?_⟩))
   go_ret
   exact ⟨by first | rfl | (simp; done) | (simp [*]; done), by repeat (first | exact Drawn0.refl _ | apply Drawn0.step)⟩
def sibylref10_Worth.f (a0 : Int) : Option (Int) := (sibylref10_Key.f a0).bind fun t456 => (if t456 > 9218868437227405314 then (some a0) else (some 0))
set_option maxHeartbeats 8000000 in
set_option maxRecDepth 100000 in
theorem sibylref10_Worth.calls (a0 : Int) (r : Int) (w : World) (h : sibylref10_Worth.f a0 = some r) :
  Calls Try.prog 50 #[.int .u64 a0] w fun e w' => e = .returned (.int .u64 r) ∧ Drawn0 w w' := by
 have H : ((sibylref10_Key.f a0).bind fun t456 => (if t456 > 9218868437227405314 then (some a0) else (some 0))) = some r := h
 clear h
 obtain ⟨t456, A2, H⟩ := bindA H
 by_cases c3 : t456 > 9218868437227405314
 ·rw [if_pos c3] at H
  have c3b0 : decide (9218868437227405314 < t456) = true := decide_eq_true c3
  clear c3
  obtain rfl := Option.some.inj H
  go_enter Try.func50, Try.ntmps50
  go_wp2_with (first | ((with_reducible refine gate_callee (f := 77) rfl ?_); refine goesM (some 4) rfl rfl Try.func77 (by kernel_rfl) rfl #[.int .u64 a0] rfl (by rfl) ?_; (with_reducible refine (sibylref10_Key.calls a0 t456 _ A2.out).mono ?_); rintro e w' ⟨rfl, ⟨nd, rfl⟩⟩; refine ⟨_, rfl, ?_⟩))
  go_ret
  exact ⟨by first | rfl | (simp; done) | (simp [*]; done), by repeat (first | exact Drawn0.refl _ | apply Drawn0.step)⟩
 ·rw [if_neg c3] at H
  have c3b0 : decide (9218868437227405314 < t456) = false := decide_eq_false c3
  clear c3
  obtain rfl := Option.some.inj H
  go_enter Try.func50, Try.ntmps50
  go_wp2_with (first | ((with_reducible refine gate_callee (f := 77) rfl ?_); refine goesM (some 4) rfl rfl Try.func77 (by kernel_rfl) rfl #[.int .u64 a0] rfl (by rfl) ?_; (with_reducible refine (sibylref10_Key.calls a0 t456 _ A2.out).mono ?_); rintro e w' ⟨rfl, ⟨nd, rfl⟩⟩; refine ⟨_, rfl, ?_⟩))
  go_ret
  exact ⟨by first | rfl | (simp; done) | (simp [*]; done), by repeat (first | exact Drawn0.refl _ | apply Drawn0.step)⟩
def sibylref03_One.f (a0 : Int) : Option (Int) := (sibylref03_IsNaN.f a0).bind fun t457 => (if t457 = true then (some 9221120237041090561) else (some a0))
set_option maxHeartbeats 8000000 in
set_option maxRecDepth 100000 in
theorem sibylref03_One.calls (a0 : Int) (r : Int) (w : World) (h : sibylref03_One.f a0 = some r) :
  Calls Try.prog 78 #[.int .u64 a0] w fun e w' => e = .returned (.int .u64 r) ∧ Drawn0 w w' := by
 have H : ((sibylref03_IsNaN.f a0).bind fun t457 => (if t457 = true then (some 9221120237041090561) else (some a0))) = some r := h
 clear h
 obtain ⟨t457, A2, H⟩ := bindA H
 by_cases c3 : t457 = true
 ·subst c3
  have H1 : (some 9221120237041090561) = some r := by rw [if_pos rfl] at H; exact H
  clear H
  have H := H1
  clear H1
  obtain rfl := Option.some.inj H
  go_enter Try.func78, Try.ntmps78
  go_wp2_with (first | ((with_reducible refine gate_callee (f := 22) rfl ?_); refine goesM (some 4) rfl rfl Try.func22 (by kernel_rfl) rfl #[.int .u64 a0] rfl (by rfl) ?_; (with_reducible refine (sibylref03_IsNaN.calls a0 true _ A2.out).mono ?_); rintro e w' ⟨rfl, ⟨nd, rfl⟩⟩; refine ⟨_, rfl, ?_⟩))
  go_ret
  exact ⟨by first | rfl | (simp; done) | (simp [*]; done), by repeat (first | exact Drawn0.refl _ | apply Drawn0.step)⟩
 ·replace c3 := Bool.eq_false_iff.mpr c3
  subst c3
  have H1 : (some a0) = some r := by rw [if_neg (show ¬ (false = true) by decide)] at H; exact H
  clear H
  have H := H1
  clear H1
  obtain rfl := Option.some.inj H
  go_enter Try.func78, Try.ntmps78
  go_wp2_with (first | ((with_reducible refine gate_callee (f := 22) rfl ?_); refine goesM (some 4) rfl rfl Try.func22 (by kernel_rfl) rfl #[.int .u64 a0] rfl (by rfl) ?_; (with_reducible refine (sibylref03_IsNaN.calls a0 false _ A2.out).mono ?_); rintro e w' ⟨rfl, ⟨nd, rfl⟩⟩; refine ⟨_, rfl, ?_⟩))
  go_ret
  exact ⟨by first | rfl | (simp; done) | (simp [*]; done), by repeat (first | exact Drawn0.refl _ | apply Drawn0.step)⟩
def sibylref10_At.f (l0 : List Int) (a1 : Int) (a2 : Int) : Option (Int) := if (l0.length : Int) = 0 then (some 0) else (if a1 < 0 then (some 0) else (if a2 < 0 then (some 0) else (if 0 ≤ (Int.tmod (wrap64 ((Int.tmod a1 (l0.length : Int)) + (Int.tmod a2 (l0.length : Int)))) (l0.length : Int)) then (if (Int.tmod (wrap64 ((Int.tmod a1 (l0.length : Int)) + (Int.tmod a2 (l0.length : Int)))) (l0.length : Int)) < (l0.length : Int) then ((sibylref03_One.f (rd l0 (Int.tmod (wrap64 ((Int.tmod a1 (l0.length : Int)) + (Int.tmod a2 (l0.length : Int)))) (l0.length : Int)))).bind fun t459 => (some t459)) else (none)) else (none))))
set_option maxHeartbeats 8000000 in
set_option maxRecDepth 100000 in
theorem sibylref10_At.calls (A0 : Option Addr) (c0 : Nat) (l0 : List Int) (a1 : Int) (a2 : Int) (r : Int) (w : World) (hr0 : Kd.C (Kd.int .u64) w A0 l0.length l0) (hc0 : l0.length ≤ c0) (h : sibylref10_At.f l0 a1 a2 = some r) :
  Calls Try.prog 51 #[.slice A0 l0.length c0, .int .i64 a1, .int .i64 a2] w fun e w' => e = .returned (.int .u64 r) ∧ Drawn0 w w' := by
 have HR0 := Aside0.mk hr0
 have HC0 := Aside0.mk hc0
 clear hr0 hc0
 have H : (if (l0.length : Int) = 0 then (some 0) else (if a1 < 0 then (some 0) else (if a2 < 0 then (some 0) else (if 0 ≤ (Int.tmod (wrap64 ((Int.tmod a1 (l0.length : Int)) + (Int.tmod a2 (l0.length : Int)))) (l0.length : Int)) then (if (Int.tmod (wrap64 ((Int.tmod a1 (l0.length : Int)) + (Int.tmod a2 (l0.length : Int)))) (l0.length : Int)) < (l0.length : Int) then ((sibylref03_One.f (rd l0 (Int.tmod (wrap64 ((Int.tmod a1 (l0.length : Int)) + (Int.tmod a2 (l0.length : Int)))) (l0.length : Int)))).bind fun t459 => (some t459)) else (none)) else (none))))) = some r := h
 clear h
 by_cases c4 : (l0.length : Int) = 0
 ·rw [if_pos c4] at H
  have c4b0 : ((l0.length : Int) == 0) = true := beq_iff_eq.mpr c4
  have c4b1 : ((l0.length : Int) != 0) = false := bne_eq_false_iff_eq.mpr c4
  clear c4
  obtain rfl := Option.some.inj H
  go_enter Try.func51, Try.ntmps51
  go_wp2
  repeat (go_quiet (fail); try go_wp2)
  go_ret
  exact ⟨by first | rfl | (simp; done) | (simp [*]; done), by repeat (first | exact Drawn0.refl _ | apply Drawn0.step)⟩
 ·rw [if_neg c4] at H
  have c4b0 : ((l0.length : Int) == 0) = false := beq_eq_false_iff_ne.mpr c4
  have c4b1 : ((l0.length : Int) != 0) = true := bne_iff_ne.mpr c4
  have c4b2 : ¬ (l0 = []) := fun h_ => c4 (by rw [h_]; rfl)
  by_cases c5 : a1 < 0
  ·rw [if_pos c5] at H
   have c5b0 : decide (a1 < 0) = true := decide_eq_true c5
   clear c5
   obtain rfl := Option.some.inj H
   go_enter Try.func51, Try.ntmps51
   go_wp2
   repeat (go_quiet (fail); try go_wp2)
   go_ret
   exact ⟨by first | rfl | (simp; done) | (simp [*]; done), by repeat (first | exact Drawn0.refl _ | apply Drawn0.step)⟩
  ·rw [if_neg c5] at H
   have c5b0 : decide (a1 < 0) = false := decide_eq_false c5
   clear c5
   by_cases c6 : a2 < 0
   ·rw [if_pos c6] at H
    have c6b0 : decide (a2 < 0) = true := decide_eq_true c6
    clear c6
    obtain rfl := Option.some.inj H
    go_enter Try.func51, Try.ntmps51
    go_wp2
    repeat (go_quiet (fail); try go_wp2)
    go_ret
    exact ⟨by first | rfl | (simp; done) | (simp [*]; done), by repeat (first | exact Drawn0.refl _ | apply Drawn0.step)⟩
   ·rw [if_neg c6] at H
    have c6b0 : decide (a2 < 0) = false := decide_eq_false c6
    clear c6
    obtain ⟨ji7, hji7⟩ : ∃ j_ : Int, (Int.tmod (wrap64 ((Int.tmod a1 (l0.length : Int)) + (Int.tmod a2 (l0.length : Int)))) (l0.length : Int)) = j_ := ⟨_, rfl⟩
    replace H : (if 0 ≤ (ji7) then (if (ji7) < (l0.length : Int) then ((sibylref03_One.f (rd l0 (ji7))).bind fun t459 => (some t459)) else (none)) else (none)) = some r := by first | (rw [hji7] at H; exact H) | (simp only [hji7] at H ⊢; exact H)
    by_cases c8 : 0 ≤ (ji7)
    ·rw [if_pos c8] at H
     have c8b0 : decide (0 ≤ (ji7)) = true := decide_eq_true c8
     clear c8
     by_cases c9 : (ji7) < (l0.length : Int)
     ·rw [if_pos c9] at H
      have c9b0 : decide ((ji7) < (l0.length : Int)) = true := decide_eq_true c9
      clear c9
      obtain ⟨t459, A10, H⟩ := bindA H
      obtain rfl := Option.some.inj H
      have p458 : 0 ≤ ((ji7) : Int) := of_decide_eq_true (by first | (with_reducible assumption) | assumption)
      have q458 : (ji7) < (l0.length : Int) := of_decide_eq_true (by first | (with_reducible assumption) | assumption)
      obtain ⟨ad458, e458, hx458_0⟩ := Kd.at_int HR0.out (ji7) p458 q458
      cases e458
      replace p458 := eq_true p458
      replace q458 := eq_true q458
      go_enter Try.func51, Try.ntmps51
      go_wp2_with (first | (go_at_call 78; (with_reducible refine (sibylref03_One.calls (rd l0 (ji7)) t459 _ A10.out).mono ?_); rintro e w' ⟨rfl, ⟨nd, rfl⟩⟩; (try first | exact ⟨rfl, _, World.drewN_drewN _ _ _⟩ | exact ⟨rfl, _, Eq.trans (World.drewN_drewN _ _ _) (congrArg (World.drewN _) (Nat.add_assoc _ _ _))⟩)))
      repeat (go_quiet (first | (go_at_call 78; (with_reducible refine (sibylref03_One.calls (rd l0 (ji7)) t459 _ A10.out).mono ?_); rintro e w' ⟨rfl, ⟨nd, rfl⟩⟩; (try first | exact ⟨rfl, _, World.drewN_drewN _ _ _⟩ | exact ⟨rfl, _, Eq.trans (World.drewN_drewN _ _ _) (congrArg (World.drewN _) (Nat.add_assoc _ _ _))⟩))); try go_wp2_with (first | (go_at_call 78; (with_reducible refine (sibylref03_One.calls (rd l0 (ji7)) t459 _ A10.out).mono ?_); rintro e w' ⟨rfl, ⟨nd, rfl⟩⟩; (try first | exact ⟨rfl, _, World.drewN_drewN _ _ _⟩ | exact ⟨rfl, _, Eq.trans (World.drewN_drewN _ _ _) (congrArg (World.drewN _) (Nat.add_assoc _ _ _))⟩))))
      go_ret
      exact ⟨by first | rfl | (simp; done) | (simp only [← hji7] <;> (first | rfl | simp)) | (simp [*]; done), by repeat (first | exact Drawn0.refl _ | apply Drawn0.step)⟩
     ·rw [if_neg c9] at H
      exact absurd H (by simp)
    ·rw [if_neg c8] at H
     exact absurd H (by simp)
end Go.Proofs.Ytjppanekddljbaa.Pr
/- What the kit's print wrote for these functions, taken together by wip/pick.py: each function's Lean function and that the Go code comes to it. -/
namespace Go.Proofs.Ytjppanekddljbaa.Pr
open Go.RowKit Go.Proofs.YtjppanekddljbaaW.PrintWords Go.Proofs.YtjppanekddljbaaW.PrintLast Go.Proofs.YtjppanekddljbaaW.PrintMore
attribute [local go_sem] max2_int min2_int max_two min_two max_three min_three max_four min_four
def sibylref09_Good.l0 : Nat → List (S68) → Int → Option (Bool)
 | 0, _, _ => none
 | k + 1, x0, x3 => if x3 < (x0.length : Int) then (if 0 ≤ x3 then (if ((rd_T68 x0 x3).f0) < 2 then (some false) else (if ((rd_T68 x0 x3).f1) < 0 then (some false) else (if ((rd_T68 x0 x3).f1) ≥ ((rd_T68 x0 x3).f0) then (some false) else (sibylref09_Good.l0 k x0 (wrap64 (x3 + 1)))))) else (none)) else (some true)
def sibylref09_Good.f (k : Nat) (l0 : List (S68)) : Option (Bool) := sibylref09_Good.l0 k l0 0
set_option maxHeartbeats 8000000 in
set_option maxRecDepth 100000 in
theorem sibylref09_Good.calls (k : Nat) (A0 : Option Addr) (c0 : Nat) (l0 : List (S68)) (r : Bool) (w : World) (hr0 : Kd.C k68 w A0 l0.length l0) (hc0 : l0.length ≤ c0) (h : sibylref09_Good.f k l0 = some r) :
  Calls Try.prog 58 #[.slice A0 l0.length c0] w fun e w' => e = .returned (.bool r) ∧ Drawn0 w w' := by
 have HR0 := Aside0.mk hr0
 have HC0 := Aside0.mk hc0
 clear hr0 hc0
 have H : (sibylref09_Good.l0 k l0 0) = some r := h
 clear h
 have H' := Aside0.mk H
 clear H
 go_enter Try.func58, Try.ntmps58
 go_wp2
 repeat (go_quiet (fail); try go_wp2)
 go_loopg [3] k (fun kq v3 w' => ∃ (x3_1 : Int), v3 = .int .i64 x3_1 ∧ Aside0 (sibylref09_Good.l0 kq l0 x3_1 = some r) ∧ Aside0 (kq ≤ k) ∧ Drawn0 w w')
 case atStart => exact ⟨(0), (by first | rfl | (simp; done) | (simp [*]; done)), H', ⟨Nat.le_refl _⟩, by repeat (first | exact Drawn0.refl _ | apply Drawn0.step)⟩
 case round =>
  clear H'
  obtain ⟨x3_1, rfl, HA, HK1, ⟨m1, rfl⟩⟩ := hrel
  cases gk with
  | zero => exact absurd HA.out (by simp [sibylref09_Good.l0])
  | succ k1 =>
   have H := HA.out
   clear HA
   simp only [sibylref09_Good.l0] at H
   by_cases c2 : x3_1 < (l0.length : Int)
   ·rw [if_pos c2] at H
    have c2b0 : decide (x3_1 < (l0.length : Int)) = true := decide_eq_true c2
    clear c2
    by_cases c3 : 0 ≤ x3_1
    ·rw [if_pos c3] at H
     have c3b0 : decide (0 ≤ x3_1) = true := decide_eq_true c3
     clear c3
     by_cases c4 : ((rd_T68 l0 x3_1).f0) < 2
     ·rw [if_pos c4] at H
      have c4b0 : decide (((rd_T68 l0 x3_1).f0) < 2) = true := decide_eq_true c4
      clear c4
      obtain rfl := Option.some.inj H
      have p534 : 0 ≤ (x3_1 : Int) := of_decide_eq_true (by first | (with_reducible assumption) | assumption)
      have q534 : x3_1 < (l0.length : Int) := of_decide_eq_true (by first | (with_reducible assumption) | assumption)
      obtain ⟨ad534, e534, hx534_0, hx534_1⟩ := at_T68 HR0.out x3_1 p534 q534
      cases e534
      replace p534 := eq_true p534
      replace q534 := eq_true q534
      go_wp2
      repeat (go_quiet (fail); try go_wp2)
      go_ret
      exact ⟨by first | rfl | (simp; done) | (simp [*]; done), by repeat (first | exact Drawn0.refl _ | apply Drawn0.step)⟩
     ·rw [if_neg c4] at H
      have c4b0 : decide (((rd_T68 l0 x3_1).f0) < 2) = false := decide_eq_false c4
      clear c4
      by_cases c5 : ((rd_T68 l0 x3_1).f1) < 0
      ·rw [if_pos c5] at H
       have c5b0 : decide (((rd_T68 l0 x3_1).f1) < 0) = true := decide_eq_true c5
       clear c5
       obtain rfl := Option.some.inj H
       have p534 : 0 ≤ (x3_1 : Int) := of_decide_eq_true (by first | (with_reducible assumption) | assumption)
       have q534 : x3_1 < (l0.length : Int) := of_decide_eq_true (by first | (with_reducible assumption) | assumption)
       obtain ⟨ad534, e534, hx534_0, hx534_1⟩ := at_T68 HR0.out x3_1 p534 q534
       cases e534
       replace p534 := eq_true p534
       replace q534 := eq_true q534
       have p535 : 0 ≤ (x3_1 : Int) := of_decide_eq_true (by first | (with_reducible assumption) | assumption)
       have q535 : x3_1 < (l0.length : Int) := of_decide_eq_true (by first | (with_reducible assumption) | assumption)
       obtain ⟨ad535, e535, hx535_0, hx535_1⟩ := at_T68 HR0.out x3_1 p535 q535
       obtain rfl : ad534 = ad535 := (by injection e535)
       replace p535 := eq_true p535
       replace q535 := eq_true q535
       go_wp2
       repeat (go_quiet (fail); try go_wp2)
       go_ret
       exact ⟨by first | rfl | (simp; done) | (simp [*]; done), by repeat (first | exact Drawn0.refl _ | apply Drawn0.step)⟩
      ·rw [if_neg c5] at H
       have c5b0 : decide (((rd_T68 l0 x3_1).f1) < 0) = false := decide_eq_false c5
       clear c5
       by_cases c6 : ((rd_T68 l0 x3_1).f1) ≥ ((rd_T68 l0 x3_1).f0)
       ·rw [if_pos c6] at H
        have c6b0 : decide (((rd_T68 l0 x3_1).f0) ≤ ((rd_T68 l0 x3_1).f1)) = true := decide_eq_true c6
        clear c6
        obtain rfl := Option.some.inj H
        have p534 : 0 ≤ (x3_1 : Int) := of_decide_eq_true (by first | (with_reducible assumption) | assumption)
        have q534 : x3_1 < (l0.length : Int) := of_decide_eq_true (by first | (with_reducible assumption) | assumption)
        obtain ⟨ad534, e534, hx534_0, hx534_1⟩ := at_T68 HR0.out x3_1 p534 q534
        cases e534
        replace p534 := eq_true p534
        replace q534 := eq_true q534
        have p535 : 0 ≤ (x3_1 : Int) := of_decide_eq_true (by first | (with_reducible assumption) | assumption)
        have q535 : x3_1 < (l0.length : Int) := of_decide_eq_true (by first | (with_reducible assumption) | assumption)
        obtain ⟨ad535, e535, hx535_0, hx535_1⟩ := at_T68 HR0.out x3_1 p535 q535
        obtain rfl : ad534 = ad535 := (by injection e535)
        replace p535 := eq_true p535
        replace q535 := eq_true q535
        have p536 : 0 ≤ (x3_1 : Int) := of_decide_eq_true (by first | (with_reducible assumption) | assumption)
        have q536 : x3_1 < (l0.length : Int) := of_decide_eq_true (by first | (with_reducible assumption) | assumption)
        obtain ⟨ad536, e536, hx536_0, hx536_1⟩ := at_T68 HR0.out x3_1 p536 q536
        obtain rfl : ad534 = ad536 := (by injection e536)
        replace p536 := eq_true p536
        replace q536 := eq_true q536
        have p537 : 0 ≤ (x3_1 : Int) := of_decide_eq_true (by first | (with_reducible assumption) | assumption)
        have q537 : x3_1 < (l0.length : Int) := of_decide_eq_true (by first | (with_reducible assumption) | assumption)
        obtain ⟨ad537, e537, hx537_0, hx537_1⟩ := at_T68 HR0.out x3_1 p537 q537
        obtain rfl : ad534 = ad537 := (by injection e537)
        replace p537 := eq_true p537
        replace q537 := eq_true q537
        go_wp2
        repeat (go_quiet (fail); try go_wp2)
        go_ret
        exact ⟨by first | rfl | (simp; done) | (simp [*]; done), by repeat (first | exact Drawn0.refl _ | apply Drawn0.step)⟩
       ·rw [if_neg c6] at H
        have c6b0 : decide (((rd_T68 l0 x3_1).f0) ≤ ((rd_T68 l0 x3_1).f1)) = false := decide_eq_false c6
        clear c6
        have H' := Aside0.mk H
        clear H
        have p534 : 0 ≤ (x3_1 : Int) := of_decide_eq_true (by first | (with_reducible assumption) | assumption)
        have q534 : x3_1 < (l0.length : Int) := of_decide_eq_true (by first | (with_reducible assumption) | assumption)
        obtain ⟨ad534, e534, hx534_0, hx534_1⟩ := at_T68 HR0.out x3_1 p534 q534
        cases e534
        replace p534 := eq_true p534
        replace q534 := eq_true q534
        have p535 : 0 ≤ (x3_1 : Int) := of_decide_eq_true (by first | (with_reducible assumption) | assumption)
        have q535 : x3_1 < (l0.length : Int) := of_decide_eq_true (by first | (with_reducible assumption) | assumption)
        obtain ⟨ad535, e535, hx535_0, hx535_1⟩ := at_T68 HR0.out x3_1 p535 q535
        obtain rfl : ad534 = ad535 := (by injection e535)
        replace p535 := eq_true p535
        replace q535 := eq_true q535
        have p536 : 0 ≤ (x3_1 : Int) := of_decide_eq_true (by first | (with_reducible assumption) | assumption)
        have q536 : x3_1 < (l0.length : Int) := of_decide_eq_true (by first | (with_reducible assumption) | assumption)
        obtain ⟨ad536, e536, hx536_0, hx536_1⟩ := at_T68 HR0.out x3_1 p536 q536
        obtain rfl : ad534 = ad536 := (by injection e536)
        replace p536 := eq_true p536
        replace q536 := eq_true q536
        have p537 : 0 ≤ (x3_1 : Int) := of_decide_eq_true (by first | (with_reducible assumption) | assumption)
        have q537 : x3_1 < (l0.length : Int) := of_decide_eq_true (by first | (with_reducible assumption) | assumption)
        obtain ⟨ad537, e537, hx537_0, hx537_1⟩ := at_T68 HR0.out x3_1 p537 q537
        obtain rfl : ad534 = ad537 := (by injection e537)
        replace p537 := eq_true p537
        replace q537 := eq_true q537
        go_wp2
        repeat (go_quiet (fail); try go_wp2)
        go_roundg k1
        case measure => have := HK1.out; omega
        case rel => exact ⟨(wrap64 (x3_1 + 1)), (by first | rfl | (simp; done) | (simp [*]; done)), H', ⟨by have := HK1.out; omega⟩, by repeat (first | exact Drawn0.refl _ | apply Drawn0.step)⟩
    ·rw [if_neg c3] at H
     exact absurd H (by simp)
   ·rw [if_neg c2] at H
    have c2b0 : decide (x3_1 < (l0.length : Int)) = false := decide_eq_false c2
    clear c2
    obtain rfl := Option.some.inj H
    go_wp2
    repeat (go_quiet (fail); try go_wp2)
    go_ret
    exact ⟨by first | rfl | (simp; done) | (simp [*]; done), by repeat (first | exact Drawn0.refl _ | apply Drawn0.step)⟩
def sibylref21_good.l0 : Nat → List (S68) → Int → Option (Bool)
 | 0, _, _ => none
 | k + 1, x0, x3 => if x3 < (x0.length : Int) then (if 0 ≤ x3 then (if ((rd_T68 x0 x3).f0) > 4096 then (some false) else (sibylref21_good.l0 k x0 (wrap64 (x3 + 1)))) else (none)) else ((sibylref09_Good.f k x0).bind fun t539 => (some t539))
def sibylref21_good.f (k : Nat) (l0 : List (S68)) : Option (Bool) := sibylref21_good.l0 k l0 0
set_option maxHeartbeats 8000000 in
set_option maxRecDepth 100000 in
theorem sibylref21_good.calls (k : Nat) (A0 : Option Addr) (c0 : Nat) (l0 : List (S68)) (r : Bool) (w : World) (hr0 : Kd.C k68 w A0 l0.length l0) (hc0 : l0.length ≤ c0) (h : sibylref21_good.f k l0 = some r) :
  Calls Try.prog 29 #[.slice A0 l0.length c0] w fun e w' => e = .returned (.bool r) ∧ Drawn0 w w' := by
 have HR0 := Aside0.mk hr0
 have HC0 := Aside0.mk hc0
 clear hr0 hc0
 have H : (sibylref21_good.l0 k l0 0) = some r := h
 clear h
 have H' := Aside0.mk H
 clear H
 go_enter Try.func29, Try.ntmps29
 go_wp2
 go_loopg [3] k (fun kq v3 w' => ∃ (x3_1 : Int), v3 = .int .i64 x3_1 ∧ Aside0 (sibylref21_good.l0 kq l0 x3_1 = some r) ∧ Aside0 (kq ≤ k) ∧ Drawn0 w w')
 case atStart => exact ⟨(0), (by first | rfl | (simp; done) | (simp [*]; done)), H', ⟨Nat.le_refl _⟩, by repeat (first | exact Drawn0.refl _ | apply Drawn0.step)⟩
 case round =>
  clear H'
  obtain ⟨x3_1, rfl, HA, HK1, ⟨m1, rfl⟩⟩ := hrel
  cases gk with
  | zero => exact absurd HA.out (by simp [sibylref21_good.l0])
  | succ k1 =>
   have H := HA.out
   clear HA
   simp only [sibylref21_good.l0] at H
   by_cases c2 : x3_1 < (l0.length : Int)
   ·rw [if_pos c2] at H
    have c2b0 : decide (x3_1 < (l0.length : Int)) = true := decide_eq_true c2
    clear c2
    by_cases c3 : 0 ≤ x3_1
    ·rw [if_pos c3] at H
     have c3b0 : decide (0 ≤ x3_1) = true := decide_eq_true c3
     clear c3
     by_cases c4 : ((rd_T68 l0 x3_1).f0) > 4096
     ·rw [if_pos c4] at H
      have c4b0 : decide (4096 < ((rd_T68 l0 x3_1).f0)) = true := decide_eq_true c4
      clear c4
      obtain rfl := Option.some.inj H
      have p538 : 0 ≤ (x3_1 : Int) := of_decide_eq_true (by first | (with_reducible assumption) | assumption)
      have q538 : x3_1 < (l0.length : Int) := of_decide_eq_true (by first | (with_reducible assumption) | assumption)
      obtain ⟨ad538, e538, hx538_0, hx538_1⟩ := at_T68 HR0.out x3_1 p538 q538
      cases e538
      replace p538 := eq_true p538
      replace q538 := eq_true q538
      go_wp2
      go_ret
      exact ⟨by first | rfl | (simp; done) | (simp [*]; done), by repeat (first | exact Drawn0.refl _ | apply Drawn0.step)⟩
     ·rw [if_neg c4] at H
      have c4b0 : decide (4096 < ((rd_T68 l0 x3_1).f0)) = false := decide_eq_false c4
      clear c4
      have H' := Aside0.mk H
      clear H
      have p538 : 0 ≤ (x3_1 : Int) := of_decide_eq_true (by first | (with_reducible assumption) | assumption)
      have q538 : x3_1 < (l0.length : Int) := of_decide_eq_true (by first | (with_reducible assumption) | assumption)
      obtain ⟨ad538, e538, hx538_0, hx538_1⟩ := at_T68 HR0.out x3_1 p538 q538
      cases e538
      replace p538 := eq_true p538
      replace q538 := eq_true q538
      go_wp2
      go_roundg k1
      case measure => have := HK1.out; omega
      case rel => exact ⟨(wrap64 (x3_1 + 1)), (by first | rfl | (simp; done) | (simp [*]; done)), H', ⟨by have := HK1.out; omega⟩, by repeat (first | exact Drawn0.refl _ | apply Drawn0.step)⟩
    ·rw [if_neg c3] at H
     exact absurd H (by simp)
   ·rw [if_neg c2] at H
    have c2b0 : decide (x3_1 < (l0.length : Int)) = false := decide_eq_false c2
    clear c2
    obtain ⟨t539, A5, H⟩ := bindA H
    obtain rfl := Option.some.inj H
    go_wp2_with (first | ((with_reducible refine gate_callee (f := 58) rfl ?_); refine goesM (some 17) rfl rfl Try.func58 (by kernel_rfl) rfl #[.slice A0 l0.length c0] rfl (by rfl) ?_; (with_reducible refine (sibylref09_Good.calls k1 _ _ l0 t539 _ ?side1 ?side2 A5.out).mono ?_); (case side1 => exact ca HR0.out); (case side2 => exact HC0.out); rintro e w' ⟨rfl, ⟨nd, rfl⟩⟩; refine ⟨_, rfl, ?_⟩))
    go_ret
    exact ⟨by first | rfl | (simp; done) | (simp [*]; done), by repeat (first | exact Drawn0.refl _ | apply Drawn0.step)⟩
mutual
def sibylref21_Shares.j0 : Nat → List Int → Int → Int → Bool → Option (List Int × Int)
 | 0, _, _, _, _ => none
 | k + 1, x0, x1, x2, x24 => if x24 = true then (some (([] : List Int), 2)) else (sibylref21_Shares.l0 k x0 x1 x2 ([] : List Int) 0 0 0)
def sibylref21_Shares.l0 : Nat → List Int → Int → Int → List Int → Int → Int → Int → Option (List Int × Int)
 | 0, _, _, _, _, _, _, _ => none
 | k + 1, x0, x1, x2, x8, x10, x11, x12 => if x12 < x2 then ((sibylref10_At.f x0 x1 x12).bind fun t507 => ((sibylref10_Worth.f t507).bind fun t508 => (if x8.length < 17592186044416 then ((some (x8 ++ [t508] : List Int)).bind fun y509 => ((sibylref21_Add.f k x10 t508).bind fun t512 => (if t508 = 9218868437227405312 then (sibylref21_Shares.l0 k x0 x1 x2 y509 t512 (wrap64 (x11 + 1)) (wrap64 (x12 + 1))) else (sibylref21_Shares.l0 k x0 x1 x2 y509 t512 x11 (wrap64 (x12 + 1)))))) else (none)))) else (sibylref21_Shares.l1 k x2 x8 ([] : List Int) x10 x11 0)
def sibylref21_Shares.l1 : Nat → Int → List Int → List Int → Int → Int → Int → Option (List Int × Int)
 | 0, _, _, _, _, _, _ => none
 | k + 1, x2, x8, x9, x10, x11, x14 => if x14 < x2 then (if x11 > 0 then (if 0 ≤ x14 then (if x14 < (x8.length : Int) then (sibylref21_Shares.j3 k x2 x8 x9 x10 x11 x14 ((rd x8 x14) == 9218868437227405312)) else (none)) else (none)) else (sibylref21_Shares.j3 k x2 x8 x9 x10 x11 x14 false)) else (some (x9, 0))
def sibylref21_Shares.j3 : Nat → Int → List Int → List Int → Int → Int → Int → Bool → Option (List Int × Int)
 | 0, _, _, _, _, _, _, _ => none
 | k + 1, x2, x8, x9, x10, x11, x14, x60 => if x60 = true then ((sibylref21_Int.f k 1).bind fun t514 => ((sibylref21_Int.f k x11).bind fun t515 => ((sibylref21_Div.f k t514 t515).bind fun t516 => (if x9.length < 17592186044416 then (sibylref21_Shares.l1 k x2 x8 (x9 ++ [t516]) x10 x11 (wrap64 (x14 + 1))) else (none))))) else (if x11 > 0 then (if x9.length < 17592186044416 then (sibylref21_Shares.l1 k x2 x8 (x9 ++ [0]) x10 x11 (wrap64 (x14 + 1))) else (none)) else (if x10 = 0 then ((sibylref21_Int.f k 1).bind fun t523 => ((sibylref21_Int.f k x2).bind fun t524 => ((sibylref21_Div.f k t523 t524).bind fun t525 => (if x9.length < 17592186044416 then (sibylref21_Shares.l1 k x2 x8 (x9 ++ [t525]) x10 x11 (wrap64 (x14 + 1))) else (none))))) else (if 0 ≤ x14 then (if x14 < (x8.length : Int) then ((sibylref21_Div.f k (rd x8 x14) x10).bind fun t530 => (if x9.length < 17592186044416 then (sibylref21_Shares.l1 k x2 x8 (x9 ++ [t530]) x10 x11 (wrap64 (x14 + 1))) else (none))) else (none)) else (none))))
end
def sibylref21_Shares.f (k : Nat) (l0 : List Int) (a1 : Int) (a2 : Int) : Option (List Int × Int) := if a2 < 1 then (sibylref21_Shares.j0 k l0 a1 a2 true) else (if a2 > 4096 then (sibylref21_Shares.j0 k l0 a1 a2 true) else (sibylref21_Shares.j0 k l0 a1 a2 (decide (a1 < 0))))
set_option maxHeartbeats 8000000 in
set_option maxRecDepth 100000 in
theorem sibylref21_Shares.calls (k : Nat) (A0 : Option Addr) (c0 : Nat) (l0 : List Int) (a1 : Int) (a2 : Int) (r1 : List Int) (r2 : Int) (w : World) (hr0 : Kd.C (Kd.int .u64) w A0 l0.length l0) (hc0 : l0.length ≤ c0) (h : sibylref21_Shares.f k l0 a1 a2 = some (r1, r2)) :
  Calls Try.prog 23 #[.slice A0 l0.length c0, .int .i64 a1, .int .i64 a2] w fun e w' => ∃ v0_ : Value, e = .returned (.tuple #[v0_, .int .i64 r2]) ∧ Kd.R (Kd.int .u64) 31 w' w.heap.size (fun _ => True) v0_ r1 ∧ Below w.heap.size w w' := by
 have HR0 := Aside0.mk hr0
 have HC0 := Aside0.mk hc0
 clear hr0 hc0
 have HB := Aside0.mk (Below.refl w.heap.size w)
 have H : (if a2 < 1 then (sibylref21_Shares.j0 k l0 a1 a2 true) else (if a2 > 4096 then (sibylref21_Shares.j0 k l0 a1 a2 true) else (sibylref21_Shares.j0 k l0 a1 a2 (decide (a1 < 0))))) = some (r1, r2) := h
 clear h
 have HC4 := Aside0.mk H
 clear H
 go_enter Try.func23, Try.ntmps23
 go_upto_region 1 with (fail)
 go_cut [24] (fun v24 wc => ∃ (kq : Nat) (x24_3 : Bool), v24 = .bool x24_3 ∧ Aside0 (sibylref21_Shares.j0 kq l0 a1 a2 x24_3 = some (r1, r2)) ∧ Aside0 (kq ≤ k) ∧ Aside0 (Below w.heap.size w wc))
 case first =>
  have H := HC4.out
  clear HC4
  by_cases c5 : a2 < 1
  ·rw [if_pos c5] at H
   have c5b0 : decide (a2 < 1) = true := decide_eq_true c5
   clear c5
   (first | rw [c5b0] | (simp only [i64_w, i32_w]; rw [c5b0]) | skip)
   have H' := Aside0.mk H
   clear H
   go_wp2
   go_meet
   case rel => exact ⟨_, (true), (by first | rfl | (simp; done) | (simp [*]; done)), H', ⟨by first | omega | exact Nat.le_refl _⟩, ⟨bl HB⟩⟩
  ·rw [if_neg c5] at H
   have c5b0 : decide (a2 < 1) = false := decide_eq_false c5
   clear c5
   (first | rw [c5b0] | (simp only [i64_w, i32_w]; rw [c5b0]) | skip)
   by_cases c6 : a2 > 4096
   ·rw [if_pos c6] at H
    have c6b0 : decide (4096 < a2) = true := decide_eq_true c6
    clear c6
    have H' := Aside0.mk H
    clear H
    go_wp2
    go_meet
    case rel => exact ⟨_, (true), (by first | rfl | (simp; done) | (simp [*]; done)), H', ⟨by first | omega | exact Nat.le_refl _⟩, ⟨bl HB⟩⟩
   ·rw [if_neg c6] at H
    have c6b0 : decide (4096 < a2) = false := decide_eq_false c6
    clear c6
    have H' := Aside0.mk H
    clear H
    go_wp2
    go_meet
    case rel => exact ⟨_, (decide (a1 < 0)), (by first | rfl | (simp; done) | (simp [*]; done)), H', ⟨by first | omega | exact Nat.le_refl _⟩, ⟨bl HB⟩⟩
 case rest =>
  clear HC4
  try clear c2
  try clear p2
  try clear c5
  try clear c5b0
  try clear c6
  try clear c6b0
  obtain ⟨kq, x24_3, rfl, HA, HJ3, HB⟩ := hcut
  cases kq with
  | zero => exact absurd HA.out (by simp [sibylref21_Shares.j0])
  | succ kj3 =>
   have H := HA.out
   clear HA
   simp only [sibylref21_Shares.j0] at H
   by_cases c7 : x24_3 = true
   ·subst c7
    have H1 : (some (([] : List Int), 2)) = some (r1, r2) := by rw [if_pos rfl] at H; exact H
    clear H
    have H := H1
    clear H1
    simp only [Option.some.injEq, Prod.mk.injEq] at H
    obtain ⟨rfl, rfl⟩ := H
    go_wp2
    go_ret2
    exact ⟨_, by first | rfl | simp [*], by first | exact Kd.R_nil _ _ _ _ _ | exact Kd.V_nil _ _ _ _ _, bl HB⟩
   ·replace c7 := Bool.eq_false_iff.mpr c7
    subst c7
    have H1 : (sibylref21_Shares.l0 kj3 l0 a1 a2 ([] : List Int) 0 0 0) = some (r1, r2) := by rw [if_neg (show ¬ (false = true) by decide)] at H; exact H
    clear H
    have H := H1
    clear H1
    have H' := Aside0.mk H
    clear H
    go_wp2
    go_loopg [8, 10, 11, 12] kj3 (fun kq v8 v10 v11 v12 w' => ∃ (x8_2 : List Int) (x10_2 : Int) (x11_2 : Int) (x12_2 : Int), v10 = .int .u64 x10_2 ∧ v11 = .int .i64 x11_2 ∧ v12 = .int .i64 x12_2 ∧ Aside0 (sibylref21_Shares.l0 kq l0 a1 a2 x8_2 x10_2 x11_2 x12_2 = some (r1, r2)) ∧ Aside0 (kq ≤ kj3) ∧ Aside0 (Kd.R (Kd.int .u64) 31 w' w.heap.size (fun _ => True) v8 x8_2) ∧ Aside0 (Below w.heap.size w w'))
    case atStart => exact ⟨(([] : List Int)), (0), (0), (0), (by first | rfl | (simp; done) | (simp [*]; done)), (by first | rfl | (simp; done) | (simp [*]; done)), (by first | rfl | (simp; done) | (simp [*]; done)), H', ⟨Nat.le_refl _⟩, ⟨by first | exact Kd.R_nil _ _ _ _ _ | exact Kd.V_nil _ _ _ _ _⟩, ⟨bl HB⟩⟩
    case round =>
     clear H'
     try clear c2
     try clear p2
     try clear c5
     try clear c5b0
     try clear c6
     try clear c6b0
     try clear c7
     try clear p2
     obtain ⟨x8_2, x10_2, x11_2, x12_2, rfl, rfl, rfl, HA, HK2, HO_8, HB⟩ := hrel
     cases gk with
     | zero => exact absurd HA.out (by simp [sibylref21_Shares.l0])
     | succ k2 =>
      have H := HA.out
      clear HA
      simp only [sibylref21_Shares.l0] at H
      by_cases c8 : x12_2 < a2
      ·rw [if_pos c8] at H
       have c8b0 : decide (x12_2 < a2) = true := decide_eq_true c8
       clear c8
       obtain ⟨t507, A9, H⟩ := bindA H
       obtain ⟨t508, A10, H⟩ := bindA H
       by_cases c11 : x8_2.length < 17592186044416
       ·rw [if_pos c11] at H
        have LMc11 := Aside0.mk c11
        clear c11
        obtain ⟨y509, Ny509, H⟩ := bindS H
        obtain ⟨t512, A12, H⟩ := bindA H
        by_cases c13 : t508 = 9218868437227405312
        ·rw [if_pos c13] at H
         have c13b0 : (t508 == 9218868437227405312) = true := beq_iff_eq.mpr c13
         have c13b1 : (t508 != 9218868437227405312) = false := bne_eq_false_iff_eq.mpr c13
         clear c13
         have H' := Aside0.mk H
         clear H
         go_wp2_with (first | ((with_reducible refine gate_callee (f := 51) rfl ?_); refine goesM (some 33) rfl rfl Try.func51 (by kernel_rfl) rfl #[.slice A0 l0.length c0, .int .i64 a1, .int .i64 x12_2] rfl (by rfl) ?_; (with_reducible refine (sibylref10_At.calls _ _ l0 a1 x12_2 t507 _ ?side1 ?side2 A9.out).mono ?_); (case side1 => exact ca (Kd.C_below HR0.out HB.out)); (case side2 => exact HC0.out); rintro e w' ⟨rfl, ⟨nd, rfl⟩⟩; refine ⟨_, rfl, ?_⟩) | ((with_reducible refine gate_callee (f := 50) rfl ?_); refine goesM (some 34) rfl rfl Try.func50 (by kernel_rfl) rfl #[.int .u64 t507] rfl (by rfl) ?_; (with_reducible refine (sibylref10_Worth.calls t507 t508 _ A10.out).mono ?_); rintro e w' ⟨rfl, ⟨nd, rfl⟩⟩; refine ⟨_, rfl, ?_⟩) | ((with_reducible refine gate_builtin (b := .append) (xs := #[.tmp 35, .tmp 37]) rfl ?_); at_builtin; refine Kd.R_append (Kd.int .u64) (w0 := w) w.heap.size rfl (.tmp 35) (.tmp 37) 22 31 (.int .u64 0) 8 rfl Try.underlying22 info31 rfl (by decide) (by omega) u8 x8_2 t508 [.int .u64 t508] (fun _ => True) (fun _ => False) rfl rfl ?aP (fun _ hk => hk.elim) ?aF ?aO ?aB ?aS ?aL ?_; (case aP => exact rfl); (case aB => exact (bl HB)); (case aF => exact (fun _ _ => trivial)); (case aO => exact (ra HO_8.out)); (case aS => exact (below_size (bl HB))); (case aL => have := LMc11.out; omega); intro v510 w14 ho hb hg hat; rw [← Ny509.out] at ho; have n_ := mk2 (hb) (ho); clear HB HO_8; obtain ⟨HB, HO511⟩ := n_; clear ho hb hg hat) | ((with_reducible refine gate_callee (f := 37) rfl ?_); refine goesM (some 41) rfl rfl Try.func37 (by kernel_rfl) rfl #[.int .u64 x10_2, .int .u64 t508] rfl (by rfl) ?_; (with_reducible refine (sibylref21_Add.calls k2 x10_2 t508 t512 _ A12.out).mono ?_); rintro e w15 ⟨rfl, hb⟩; refine ⟨_, rfl, ?_⟩; have n_ := mk2 (Kd.R_below (ra HO511.out) hb) (below_step (bl HB) hb); clear HO511 HB; obtain ⟨HO511, HB⟩ := n_; (try clear hb); (try clear hb2); (try clear hk); (try clear hi)))
         go_roundg k2
         case measure => have := HJ3.out; have := HK2.out; omega
         case rel => exact ⟨(y509), (t512), (wrap64 (x11_2 + 1)), (wrap64 (x12_2 + 1)), (by first | rfl | (simp; done) | (simp [*]; done)), (by first | rfl | (simp; done) | (simp [*]; done)), (by first | rfl | (simp; done) | (simp [*]; done)), H', ⟨by have := HJ3.out; have := HK2.out; omega⟩, ⟨ra HO511.out⟩, ⟨bl HB⟩⟩
        ·rw [if_neg c13] at H
         have c13b0 : (t508 == 9218868437227405312) = false := beq_eq_false_iff_ne.mpr c13
         have c13b1 : (t508 != 9218868437227405312) = true := bne_iff_ne.mpr c13
         have H' := Aside0.mk H
         clear H
         go_wp2_with (first | ((with_reducible refine gate_callee (f := 51) rfl ?_); refine goesM (some 33) rfl rfl Try.func51 (by kernel_rfl) rfl #[.slice A0 l0.length c0, .int .i64 a1, .int .i64 x12_2] rfl (by rfl) ?_; (with_reducible refine (sibylref10_At.calls _ _ l0 a1 x12_2 t507 _ ?side1 ?side2 A9.out).mono ?_); (case side1 => exact ca (Kd.C_below HR0.out HB.out)); (case side2 => exact HC0.out); rintro e w' ⟨rfl, ⟨nd, rfl⟩⟩; refine ⟨_, rfl, ?_⟩) | ((with_reducible refine gate_callee (f := 50) rfl ?_); refine goesM (some 34) rfl rfl Try.func50 (by kernel_rfl) rfl #[.int .u64 t507] rfl (by rfl) ?_; (with_reducible refine (sibylref10_Worth.calls t507 t508 _ A10.out).mono ?_); rintro e w' ⟨rfl, ⟨nd, rfl⟩⟩; refine ⟨_, rfl, ?_⟩) | ((with_reducible refine gate_builtin (b := .append) (xs := #[.tmp 35, .tmp 37]) rfl ?_); at_builtin; refine Kd.R_append (Kd.int .u64) (w0 := w) w.heap.size rfl (.tmp 35) (.tmp 37) 22 31 (.int .u64 0) 8 rfl Try.underlying22 info31 rfl (by decide) (by omega) u8 x8_2 t508 [.int .u64 t508] (fun _ => True) (fun _ => False) rfl rfl ?aP (fun _ hk => hk.elim) ?aF ?aO ?aB ?aS ?aL ?_; (case aP => exact rfl); (case aB => exact (bl HB)); (case aF => exact (fun _ _ => trivial)); (case aO => exact (ra HO_8.out)); (case aS => exact (below_size (bl HB))); (case aL => have := LMc11.out; omega); intro v510 w16 ho hb hg hat; rw [← Ny509.out] at ho; have n_ := mk2 (hb) (ho); clear HB HO_8; obtain ⟨HB, HO511⟩ := n_; clear ho hb hg hat) | ((with_reducible refine gate_callee (f := 37) rfl ?_); refine goesM (some 41) rfl rfl Try.func37 (by kernel_rfl) rfl #[.int .u64 x10_2, .int .u64 t508] rfl (by rfl) ?_; (with_reducible refine (sibylref21_Add.calls k2 x10_2 t508 t512 _ A12.out).mono ?_); rintro e w17 ⟨rfl, hb⟩; refine ⟨_, rfl, ?_⟩; have n_ := mk2 (Kd.R_below (ra HO511.out) hb) (below_step (bl HB) hb); clear HO511 HB; obtain ⟨HO511, HB⟩ := n_; (try clear hb); (try clear hb2); (try clear hk); (try clear hi)))
         go_roundg k2
         case measure => have := HJ3.out; have := HK2.out; omega
         case rel => exact ⟨(y509), (t512), (x11_2), (wrap64 (x12_2 + 1)), (by first | rfl | (simp; done) | (simp [*]; done)), (by first | rfl | (simp; done) | (simp [*]; done)), (by first | rfl | (simp; done) | (simp [*]; done)), H', ⟨by have := HJ3.out; have := HK2.out; omega⟩, ⟨ra HO511.out⟩, ⟨bl HB⟩⟩
       ·rw [if_neg c11] at H
        exact absurd H (by simp)
      ·rw [if_neg c8] at H
       have c8b0 : decide (x12_2 < a2) = false := decide_eq_false c8
       clear c8
       have H' := Aside0.mk H
       clear H
       go_wp2
       go_loopg [9, 14] k2 (fun kq v9 v14 w' => ∃ (x9_3 : List Int) (x14_3 : Int), v14 = .int .i64 x14_3 ∧ Aside0 (sibylref21_Shares.l1 kq a2 x8_2 x9_3 x10_2 x11_2 x14_3 = some (r1, r2)) ∧ Aside0 (kq ≤ k2) ∧ Aside0 (Kd.R (Kd.int .u64) 31 w' w.heap.size (fun k_ => some k_ ≠ (v9 : Value).ownBlock) u8 x8_2) ∧ Aside0 (Kd.R (Kd.int .u64) 31 w' w.heap.size (fun k_ => some k_ ≠ (u8 : Value).ownBlock) v9 x9_3) ∧ Aside0 (Below w.heap.size w w'))
       case atStart => exact ⟨(([] : List Int)), (0), (by first | rfl | (simp; done) | (simp [*]; done)), H', ⟨Nat.le_refl _⟩, ⟨ra (Kd.R_mono HO_8.out (fun _ hk => (by simp [Value.ownBlock])))⟩, ⟨by first | exact Kd.R_nil _ _ _ _ _ | exact Kd.V_nil _ _ _ _ _⟩, ⟨bl HB⟩⟩
       case round =>
        clear H'
        try clear c1
        try clear c2
        try clear p2
        try clear c3
        try clear c5
        try clear c5b0
        try clear c6
        try clear c6b0
        try clear p6
        try clear c7
        try clear c8
        try clear c8b0
        try clear c11
        try clear c13
        try clear c13b0
        try clear c13b1
        try clear p2
        obtain ⟨x9_3, x14_3, rfl, HA, HK3, HO_8, HO_9, HB⟩ := hrel
        cases gk with
        | zero => exact absurd HA.out (by simp [sibylref21_Shares.l1])
        | succ k3 =>
         have H := HA.out
         clear HA
         simp only [sibylref21_Shares.l1] at H
         by_cases c18 : x14_3 < a2
         ·rw [if_pos c18] at H
          have c18b0 : decide (x14_3 < a2) = true := decide_eq_true c18
          clear c18
          have HC19 := Aside0.mk H
          clear H
          go_upto_region 17 with (fail)
          go_cut [60] (fun v60 wc => ∃ (kq : Nat) (x60_18 : Bool), v60 = .bool x60_18 ∧ Aside0 (sibylref21_Shares.j3 kq a2 x8_2 x9_3 x10_2 x11_2 x14_3 x60_18 = some (r1, r2)) ∧ Aside0 (kq ≤ k3) ∧ Aside0 (Kd.R (Kd.int .u64) 31 wc w.heap.size (fun k_ => some k_ ≠ (u9 : Value).ownBlock) u8 x8_2) ∧ Aside0 (Kd.R (Kd.int .u64) 31 wc w.heap.size (fun k_ => some k_ ≠ (u8 : Value).ownBlock) u9 x9_3) ∧ Aside0 (Below w.heap.size w wc))
          case first =>
           have H := HC19.out
           clear HC19
           by_cases c20 : x11_2 > 0
           ·rw [if_pos c20] at H
            have c20b0 : decide (0 < x11_2) = true := decide_eq_true c20
            clear c20
            (first | rw [c20b0] | (simp only [i64_w, i32_w]; rw [c20b0]) | skip)
            by_cases c21 : 0 ≤ x14_3
            ·rw [if_pos c21] at H
             have c21b0 : decide (0 ≤ x14_3) = true := decide_eq_true c21
             clear c21
             by_cases c22 : x14_3 < (x8_2.length : Int)
             ·rw [if_pos c22] at H
              have c22b0 : decide (x14_3 < (x8_2.length : Int)) = true := decide_eq_true c22
              clear c22
              have H' := Aside0.mk H
              clear H
              obtain ⟨Ao23, co23, eo23⟩ := Kd.R_slice HO_8.out
              subst eo23
              have p513 : 0 ≤ (x14_3 : Int) := of_decide_eq_true (by first | (with_reducible assumption) | assumption)
              have q513 : x14_3 < (x8_2.length : Int) := of_decide_eq_true (by first | (with_reducible assumption) | assumption)
              obtain ⟨ad513, e513, hx513_0⟩ := Kd.at_int (Kd.R_reads' HO_8.out).2.2 x14_3 p513 q513
              cases e513
              replace p513 := eq_true p513
              replace q513 := eq_true q513
              go_wp2
              go_meet
              case rel => exact ⟨_, (((rd x8_2 x14_3) == 9218868437227405312)), (by first | rfl | (simp; done) | (simp [*]; done)), H', ⟨by have := HJ3.out; have := HK2.out; have := HK3.out; first | omega | exact Nat.le_refl _⟩, ⟨ra HO_8.out⟩, ⟨ra HO_9.out⟩, ⟨bl HB⟩⟩
             ·rw [if_neg c22] at H
              exact absurd H (by simp)
            ·rw [if_neg c21] at H
             exact absurd H (by simp)
           ·rw [if_neg c20] at H
            have c20b0 : decide (0 < x11_2) = false := decide_eq_false c20
            clear c20
            (first | rw [c20b0] | (simp only [i64_w, i32_w]; rw [c20b0]) | skip)
            have H' := Aside0.mk H
            clear H
            go_wp2
            go_meet
            case rel => exact ⟨_, (false), (by first | rfl | (simp; done) | (simp [*]; done)), H', ⟨by have := HJ3.out; have := HK2.out; have := HK3.out; first | omega | exact Nat.le_refl _⟩, ⟨ra HO_8.out⟩, ⟨ra HO_9.out⟩, ⟨bl HB⟩⟩
          case rest =>
           clear HC19
           try clear c1
           try clear c2
           try clear p2
           try clear c3
           try clear c5
           try clear c5b0
           try clear p5
           try clear q5
           try clear hx5
           try clear c6
           try clear c6b0
           try clear p6
           try clear c7
           try clear c8
           try clear c8b0
           try clear c11
           try clear c13
           try clear c13b0
           try clear c13b1
           try clear c18
           try clear c18b0
           try clear c20
           try clear c20b0
           try clear c21
           try clear c21b0
           try clear c22
           try clear c22b0
           try clear c23
           try clear hx513_0
           try clear p2
           try clear p513
           try clear p6
           try clear q513
           obtain ⟨kq, x60_18, rfl, HA, HJ18, HO_8, HO_9, HB⟩ := hcut
           cases kq with
           | zero => exact absurd HA.out (by simp [sibylref21_Shares.j3])
           | succ kj18 =>
            have H := HA.out
            clear HA
            simp only [sibylref21_Shares.j3] at H
            by_cases c24 : x60_18 = true
            ·subst c24
             have H1 : ((sibylref21_Int.f kj18 1).bind fun t514 => ((sibylref21_Int.f kj18 x11_2).bind fun t515 => ((sibylref21_Div.f kj18 t514 t515).bind fun t516 => (if x9_3.length < 17592186044416 then (sibylref21_Shares.l1 kj18 a2 x8_2 (x9_3 ++ [t516]) x10_2 x11_2 (wrap64 (x14_3 + 1))) else (none))))) = some (r1, r2) := by rw [if_pos rfl] at H; exact H
             clear H
             have H := H1
             clear H1
             obtain ⟨t514, A25, H⟩ := bindA H
             obtain ⟨t515, A26, H⟩ := bindA H
             obtain ⟨t516, A27, H⟩ := bindA H
             by_cases c28 : x9_3.length < 17592186044416
             ·rw [if_pos c28] at H
              have LMc28 := Aside0.mk c28
              clear c28
              obtain ⟨y517, hy517⟩ : ∃ y_ : List Int, y_ = (x9_3 ++ [t516]) := ⟨_, rfl⟩
              replace H : (sibylref21_Shares.l1 kj18 a2 x8_2 y517 x10_2 x11_2 (wrap64 (x14_3 + 1))) = some (r1, r2) := by rw [hy517]; exact H
              have Ny517 := Aside0.mk hy517
              clear hy517
              have H' := Aside0.mk H
              clear H
              go_wp2_with (first | ((with_reducible refine gate_callee (f := 30) rfl ?_); refine goesM (some 71) rfl rfl Try.func30 (by kernel_rfl) rfl #[.int .i64 1] rfl (by rfl) ?_; (with_reducible refine (sibylref21_Int.calls kj18 1 t514 _ A25.out).mono ?_); rintro e w' ⟨rfl, ⟨nd, rfl⟩⟩; refine ⟨_, rfl, ?_⟩) | ((with_reducible refine gate_callee (f := 30) rfl ?_); refine goesM (some 73) rfl rfl Try.func30 (by kernel_rfl) rfl #[.int .i64 x11_2] rfl (by rfl) ?_; (with_reducible refine (sibylref21_Int.calls kj18 x11_2 t515 _ A26.out).mono ?_); rintro e w' ⟨rfl, ⟨nd, rfl⟩⟩; refine ⟨_, rfl, ?_⟩) | ((with_reducible refine gate_callee (f := 52) rfl ?_); refine goesM (some 74) rfl rfl Try.func52 (by kernel_rfl) rfl #[.int .u64 t514, .int .u64 t515] rfl (by rfl) ?_; (with_reducible refine (sibylref21_Div.calls kj18 t514 t515 t516 _ A27.out).mono ?_); rintro e w29 ⟨rfl, hb⟩; refine ⟨_, rfl, ?_⟩; have n_ := mk3 (Kd.R_below (ra HO_8.out) hb) (Kd.R_below (ra HO_9.out) hb) (below_step (bl HB) hb); clear HO_8 HO_9 HB; obtain ⟨HO_8, HO_9, HB⟩ := n_; (try clear hb); (try clear hb2); (try clear hk); (try clear hi)) | ((with_reducible refine gate_builtin (b := .append) (xs := #[.tmp 70, .tmp 75]) rfl ?_); at_builtin; refine Kd.R_append (Kd.int .u64) (w0 := w) w.heap.size rfl (.tmp 70) (.tmp 75) 22 31 (.int .u64 0) 8 rfl Try.underlying22 info31 rfl (by decide) (by omega) u9 x9_3 t516 [.int .u64 t516] (fun k_ => some k_ ≠ (u8 : Value).ownBlock) (fun _ => False) rfl rfl ?aP (fun _ hk => hk.elim) ?aF ?aO ?aB ?aS ?aL ?_; (case aP => exact rfl); (case aB => exact (bl HB)); (case aF => exact (fun k_ hk => Kd.fresh' (Kd.R_lt (ra HO_8.out)) k_ hk)); (case aO => exact (ra HO_9.out)); (case aS => exact (below_size (bl HB))); (case aL => have := LMc28.out; omega); intro v518 w30 ho hb hg hat; rw [← Ny517.out] at ho; have n_ := mk3 (Kd.R_after (ok := (fun _ => True)) (ra (Kd.R_mono HO_8.out (fun _ hk => ⟨trivial, hk⟩))) hg hat) (hb) (ho); clear HO_8 HB HO_9; obtain ⟨HO_8, HB, HO519⟩ := n_; clear ho hb hg hat))
              go_roundg kj18
              case measure => have := HJ3.out; have := HK2.out; have := HK3.out; have := HJ18.out; omega
              case rel => exact ⟨(y517), (wrap64 (x14_3 + 1)), (by first | rfl | (simp; done) | (simp [*]; done)), H', ⟨by have := HJ3.out; have := HK2.out; have := HK3.out; have := HJ18.out; omega⟩, ⟨ra (Kd.R_mono HO_8.out (fun _ hk => hk.2))⟩, ⟨ra HO519.out⟩, ⟨bl HB⟩⟩
             ·rw [if_neg c28] at H
              exact absurd H (by simp)
            ·replace c24 := Bool.eq_false_iff.mpr c24
             subst c24
             have H1 : (if x11_2 > 0 then (if x9_3.length < 17592186044416 then (sibylref21_Shares.l1 kj18 a2 x8_2 (x9_3 ++ [0]) x10_2 x11_2 (wrap64 (x14_3 + 1))) else (none)) else (if x10_2 = 0 then ((sibylref21_Int.f kj18 1).bind fun t523 => ((sibylref21_Int.f kj18 a2).bind fun t524 => ((sibylref21_Div.f kj18 t523 t524).bind fun t525 => (if x9_3.length < 17592186044416 then (sibylref21_Shares.l1 kj18 a2 x8_2 (x9_3 ++ [t525]) x10_2 x11_2 (wrap64 (x14_3 + 1))) else (none))))) else (if 0 ≤ x14_3 then (if x14_3 < (x8_2.length : Int) then ((sibylref21_Div.f kj18 (rd x8_2 x14_3) x10_2).bind fun t530 => (if x9_3.length < 17592186044416 then (sibylref21_Shares.l1 kj18 a2 x8_2 (x9_3 ++ [t530]) x10_2 x11_2 (wrap64 (x14_3 + 1))) else (none))) else (none)) else (none)))) = some (r1, r2) := by rw [if_neg (show ¬ (false = true) by decide)] at H; exact H
             clear H
             have H := H1
             clear H1
             by_cases c31 : x11_2 > 0
             ·rw [if_pos c31] at H
              have c31b0 : decide (0 < x11_2) = true := decide_eq_true c31
              clear c31
              by_cases c32 : x9_3.length < 17592186044416
              ·rw [if_pos c32] at H
               have LMc32 := Aside0.mk c32
               clear c32
               obtain ⟨y520, hy520⟩ : ∃ y_ : List Int, y_ = (x9_3 ++ [0]) := ⟨_, rfl⟩
               replace H : (sibylref21_Shares.l1 kj18 a2 x8_2 y520 x10_2 x11_2 (wrap64 (x14_3 + 1))) = some (r1, r2) := by rw [hy520]; exact H
               have Ny520 := Aside0.mk hy520
               clear hy520
               have H' := Aside0.mk H
               clear H
               go_wp2_with (first | ((with_reducible refine gate_builtin (b := .append) (xs := #[.tmp 80, .tmp 81]) rfl ?_); at_builtin; refine Kd.R_append (Kd.int .u64) (w0 := w) w.heap.size rfl (.tmp 80) (.tmp 81) 22 31 (.int .u64 0) 8 rfl Try.underlying22 info31 rfl (by decide) (by omega) u9 x9_3 0 [.int .u64 0] (fun k_ => some k_ ≠ (u8 : Value).ownBlock) (fun _ => False) rfl rfl ?aP (fun _ hk => hk.elim) ?aF ?aO ?aB ?aS ?aL ?_; (case aP => exact rfl); (case aB => exact (bl HB)); (case aF => exact (fun k_ hk => Kd.fresh' (Kd.R_lt (ra HO_8.out)) k_ hk)); (case aO => exact (ra HO_9.out)); (case aS => exact (below_size (bl HB))); (case aL => have := LMc32.out; omega); intro v521 w33 ho hb hg hat; rw [← Ny520.out] at ho; have n_ := mk3 (Kd.R_after (ok := (fun _ => True)) (ra (Kd.R_mono HO_8.out (fun _ hk => ⟨trivial, hk⟩))) hg hat) (hb) (ho); clear HO_8 HB HO_9; obtain ⟨HO_8, HB, HO522⟩ := n_; clear ho hb hg hat))
               go_roundg kj18
               case measure => have := HJ3.out; have := HK2.out; have := HK3.out; have := HJ18.out; omega
               case rel => exact ⟨(y520), (wrap64 (x14_3 + 1)), (by first | rfl | (simp; done) | (simp [*]; done)), H', ⟨by have := HJ3.out; have := HK2.out; have := HK3.out; have := HJ18.out; omega⟩, ⟨ra (Kd.R_mono HO_8.out (fun _ hk => hk.2))⟩, ⟨ra HO522.out⟩, ⟨bl HB⟩⟩
              ·rw [if_neg c32] at H
               exact absurd H (by simp)
             ·rw [if_neg c31] at H
              have c31b0 : decide (0 < x11_2) = false := decide_eq_false c31
              clear c31
              by_cases c34 : x10_2 = 0
              ·rw [if_pos c34] at H
               have c34b0 : (x10_2 == 0) = true := beq_iff_eq.mpr c34
               have c34b1 : (x10_2 != 0) = false := bne_eq_false_iff_eq.mpr c34
               clear c34
               obtain ⟨t523, A35, H⟩ := bindA H
               obtain ⟨t524, A36, H⟩ := bindA H
               obtain ⟨t525, A37, H⟩ := bindA H
               by_cases c38 : x9_3.length < 17592186044416
               ·rw [if_pos c38] at H
                have LMc38 := Aside0.mk c38
                clear c38
                obtain ⟨y526, hy526⟩ : ∃ y_ : List Int, y_ = (x9_3 ++ [t525]) := ⟨_, rfl⟩
                replace H : (sibylref21_Shares.l1 kj18 a2 x8_2 y526 x10_2 x11_2 (wrap64 (x14_3 + 1))) = some (r1, r2) := by rw [hy526]; exact H
                have Ny526 := Aside0.mk hy526
                clear hy526
                have H' := Aside0.mk H
                clear H
                go_wp2_with (first | ((with_reducible refine gate_callee (f := 30) rfl ?_); refine goesM (some 87) rfl rfl Try.func30 (by kernel_rfl) rfl #[.int .i64 1] rfl (by rfl) ?_; (with_reducible refine (sibylref21_Int.calls kj18 1 t523 _ A35.out).mono ?_); rintro e w' ⟨rfl, ⟨nd, rfl⟩⟩; refine ⟨_, rfl, ?_⟩) | ((with_reducible refine gate_callee (f := 30) rfl ?_); refine goesM (some 89) rfl rfl Try.func30 (by kernel_rfl) rfl #[.int .i64 a2] rfl (by rfl) ?_; (with_reducible refine (sibylref21_Int.calls kj18 a2 t524 _ A36.out).mono ?_); rintro e w' ⟨rfl, ⟨nd, rfl⟩⟩; refine ⟨_, rfl, ?_⟩) | ((with_reducible refine gate_callee (f := 52) rfl ?_); refine goesM (some 90) rfl rfl Try.func52 (by kernel_rfl) rfl #[.int .u64 t523, .int .u64 t524] rfl (by rfl) ?_; (with_reducible refine (sibylref21_Div.calls kj18 t523 t524 t525 _ A37.out).mono ?_); rintro e w39 ⟨rfl, hb⟩; refine ⟨_, rfl, ?_⟩; have n_ := mk3 (Kd.R_below (ra HO_8.out) hb) (Kd.R_below (ra HO_9.out) hb) (below_step (bl HB) hb); clear HO_8 HO_9 HB; obtain ⟨HO_8, HO_9, HB⟩ := n_; (try clear hb); (try clear hb2); (try clear hk); (try clear hi)) | ((with_reducible refine gate_builtin (b := .append) (xs := #[.tmp 86, .tmp 91]) rfl ?_); at_builtin; refine Kd.R_append (Kd.int .u64) (w0 := w) w.heap.size rfl (.tmp 86) (.tmp 91) 22 31 (.int .u64 0) 8 rfl Try.underlying22 info31 rfl (by decide) (by omega) u9 x9_3 t525 [.int .u64 t525] (fun k_ => some k_ ≠ (u8 : Value).ownBlock) (fun _ => False) rfl rfl ?aP (fun _ hk => hk.elim) ?aF ?aO ?aB ?aS ?aL ?_; (case aP => exact rfl); (case aB => exact (bl HB)); (case aF => exact (fun k_ hk => Kd.fresh' (Kd.R_lt (ra HO_8.out)) k_ hk)); (case aO => exact (ra HO_9.out)); (case aS => exact (below_size (bl HB))); (case aL => have := LMc38.out; omega); intro v527 w40 ho hb hg hat; rw [← Ny526.out] at ho; have n_ := mk3 (Kd.R_after (ok := (fun _ => True)) (ra (Kd.R_mono HO_8.out (fun _ hk => ⟨trivial, hk⟩))) hg hat) (hb) (ho); clear HO_8 HB HO_9; obtain ⟨HO_8, HB, HO528⟩ := n_; clear ho hb hg hat))
                go_roundg kj18
                case measure => have := HJ3.out; have := HK2.out; have := HK3.out; have := HJ18.out; omega
                case rel => exact ⟨(y526), (wrap64 (x14_3 + 1)), (by first | rfl | (simp; done) | (simp [*]; done)), H', ⟨by have := HJ3.out; have := HK2.out; have := HK3.out; have := HJ18.out; omega⟩, ⟨ra (Kd.R_mono HO_8.out (fun _ hk => hk.2))⟩, ⟨ra HO528.out⟩, ⟨bl HB⟩⟩
               ·rw [if_neg c38] at H
                exact absurd H (by simp)
              ·rw [if_neg c34] at H
               have c34b0 : (x10_2 == 0) = false := beq_eq_false_iff_ne.mpr c34
               have c34b1 : (x10_2 != 0) = true := bne_iff_ne.mpr c34
               by_cases c41 : 0 ≤ x14_3
               ·rw [if_pos c41] at H
                have c41b0 : decide (0 ≤ x14_3) = true := decide_eq_true c41
                clear c41
                by_cases c42 : x14_3 < (x8_2.length : Int)
                ·rw [if_pos c42] at H
                 have c42b0 : decide (x14_3 < (x8_2.length : Int)) = true := decide_eq_true c42
                 clear c42
                 obtain ⟨t530, A43, H⟩ := bindA H
                 by_cases c44 : x9_3.length < 17592186044416
                 ·rw [if_pos c44] at H
                  have LMc44 := Aside0.mk c44
                  clear c44
                  obtain ⟨y531, hy531⟩ : ∃ y_ : List Int, y_ = (x9_3 ++ [t530]) := ⟨_, rfl⟩
                  replace H : (sibylref21_Shares.l1 kj18 a2 x8_2 y531 x10_2 x11_2 (wrap64 (x14_3 + 1))) = some (r1, r2) := by rw [hy531]; exact H
                  have Ny531 := Aside0.mk hy531
                  clear hy531
                  have H' := Aside0.mk H
                  clear H
                  obtain ⟨Ao45, co45, eo45⟩ := Kd.R_slice HO_8.out
                  subst eo45
                  have p529 : 0 ≤ (x14_3 : Int) := of_decide_eq_true (by first | (with_reducible assumption) | assumption)
                  have q529 : x14_3 < (x8_2.length : Int) := of_decide_eq_true (by first | (with_reducible assumption) | assumption)
                  obtain ⟨ad529, e529, hx529_0⟩ := Kd.at_int (Kd.R_reads' HO_8.out).2.2 x14_3 p529 q529
                  cases e529
                  replace p529 := eq_true p529
                  replace q529 := eq_true q529
                  go_wp2_with (first | ((with_reducible refine gate_callee (f := 52) rfl ?_); refine goesM (some 57) rfl rfl Try.func52 (by kernel_rfl) rfl #[.int .u64 (rd x8_2 x14_3), .int .u64 x10_2] rfl (by rfl) ?_; (with_reducible refine (sibylref21_Div.calls kj18 (rd x8_2 x14_3) x10_2 t530 _ A43.out).mono ?_); rintro e w46 ⟨rfl, hb⟩; refine ⟨_, rfl, ?_⟩; have n_ := mk3 (Kd.R_below (ra HO_8.out) hb) (Kd.R_below (ra HO_9.out) hb) (below_step (bl HB) hb); clear HO_8 HO_9 HB; obtain ⟨HO_8, HO_9, HB⟩ := n_; (try clear hb); (try clear hb2); (try clear hk); (try clear hi)) | ((with_reducible refine gate_builtin (b := .append) (xs := #[.tmp 51, .tmp 58]) rfl ?_); at_builtin; refine Kd.R_append (Kd.int .u64) (w0 := w) w.heap.size rfl (.tmp 51) (.tmp 58) 22 31 (.int .u64 0) 8 rfl Try.underlying22 info31 rfl (by decide) (by omega) u9 x9_3 t530 [.int .u64 t530] (fun k_ => some k_ ≠ (.slice (some ad529) x8_2.length co45 : Value).ownBlock) (fun _ => False) rfl rfl ?aP (fun _ hk => hk.elim) ?aF ?aO ?aB ?aS ?aL ?_; (case aP => exact rfl); (case aB => exact (bl HB)); (case aF => exact (fun k_ hk => Kd.fresh' (Kd.R_lt (ra HO_8.out)) k_ hk)); (case aO => exact (ra HO_9.out)); (case aS => exact (below_size (bl HB))); (case aL => have := LMc44.out; omega); intro v532 w47 ho hb hg hat; rw [← Ny531.out] at ho; have n_ := mk3 (Kd.R_after (ok := (fun _ => True)) (ra (Kd.R_mono HO_8.out (fun _ hk => ⟨trivial, hk⟩))) hg hat) (hb) (ho); clear HO_8 HB HO_9; obtain ⟨HO_8, HB, HO533⟩ := n_; clear ho hb hg hat))
                  go_roundg kj18
                  case measure => have := HJ3.out; have := HK2.out; have := HK3.out; have := HJ18.out; omega
                  case rel => exact ⟨(y531), (wrap64 (x14_3 + 1)), (by first | rfl | (simp; done) | (simp [*]; done)), H', ⟨by have := HJ3.out; have := HK2.out; have := HK3.out; have := HJ18.out; omega⟩, ⟨ra (Kd.R_mono HO_8.out (fun _ hk => hk.2))⟩, ⟨ra HO533.out⟩, ⟨bl HB⟩⟩
                 ·rw [if_neg c44] at H
                  exact absurd H (by simp)
                ·rw [if_neg c42] at H
                 exact absurd H (by simp)
               ·rw [if_neg c41] at H
                exact absurd H (by simp)
         ·rw [if_neg c18] at H
          have c18b0 : decide (x14_3 < a2) = false := decide_eq_false c18
          clear c18
          simp only [Option.some.injEq, Prod.mk.injEq] at H
          obtain ⟨rfl, rfl⟩ := H
          go_wp2
          go_ret2
          exact ⟨_, by first | rfl | simp [*], ra (Kd.R_mono HO_9.out (fun _ hk => trivial)), bl HB⟩
end Go.Proofs.Ytjppanekddljbaa.Pr
/- The float externs and odds.NaN, odds worth: what each call returns. -/
namespace Go.Proofs.Ytjppanekddljbaa.H
open Go.RowKit Go.Proofs.YtjppanekddljbaaW.PrintWords Go.Proofs.YtjppanekddljbaaW.PrintLast Go.Proofs.YtjppanekddljbaaW.PrintMore
theorem run_frombits (n : Int) (w : World) : (callFunc 28 #[.int .u64 n]).run Try.prog w = .ok (.value (.float .f64 n.toNat)) w := by
  rw [run_callFunc_extern (P := Try.prog) (f := 28) (fn := Try.f28) (e := Extern.MathFloatBits.float64frombits) (by kernel_rfl) (by kernel_rfl) (by kernel_rfl) (by kernel_rfl) (by kernel_rfl)]
  rfl
theorem run_bits (n : Nat) (w : World) : (callFunc 13 #[.float .f64 n]).run Try.prog w = .ok (.value (.int .u64 n)) w := by
  rw [run_callFunc_extern (P := Try.prog) (f := 13) (fn := Try.f13) (e := Extern.MathFloatBits.float64bits) (by kernel_rfl) (by kernel_rfl) (by kernel_rfl) (by kernel_rfl) (by kernel_rfl)]
  rfl
theorem nan_calls (w : World) :
    Calls Try.prog 25 #[] w fun e w' => e = .returned (.float .f64 9221120237041090561) ∧ Drawn0 w w' := by
  have h := run_frombits 9221120237041090561
  go_enter Try.func25, Try.ntmps25
  go_wp2
  go_ret
  exact ⟨rfl, Drawn0.refl _⟩
theorem worth_calls (x : Nat) (w : World) :
    Calls Try.prog 47 #[.float .f64 x] w fun e w' => e = .returned (.float .f64 (if (FloatKind.f64.format.order x 0 == some .gt) = true then x else 0)) ∧ Drawn0 w w' := by
  by_cases h : (FloatKind.f64.format.order x 0 == some .gt) = true
  · rw [if_pos h]
    go_enter Try.func47, Try.ntmps47
    go_wp2
    go_ret
    exact ⟨rfl, Drawn0.refl _⟩
  · rw [if_neg h]
    replace h := Bool.eq_false_iff.mpr h
    go_enter Try.func47, Try.ntmps47
    go_wp2
    go_ret
    exact ⟨rfl, Drawn0.refl _⟩
end Go.Proofs.Ytjppanekddljbaa.H
/- Reading a cut of a slice. -/
namespace Go.Proofs.Ytjppanekddljbaa.H
open Go.RowKit Go.Proofs.YtjppanekddljbaaW.PrintWords Go.Proofs.YtjppanekddljbaaW.PrintLast Go.Proofs.YtjppanekddljbaaW.PrintMore
/-- How many limbs are left if noughts at the end are cut off. -/
def cutn (l : List Int) : Nat → Nat
  | 0 => 0
  | n + 1 => if rd l n = 0 then cutn l n else n + 1
theorem cutn_le (l : List Int) : ∀ n, cutn l n ≤ n
  | 0 => Nat.le_refl _
  | n + 1 => by
    have := cutn_le l n
    unfold cutn
    split <;> omega
def cutL (l : List Int) : List Int := l.take (cutn l l.length)
theorem cutL_length (l : List Int) : (cutL l).length = cutn l l.length := by
  have := cutn_le l l.length
  simp [cutL]; omega
theorem cutL_le (l : List Int) : (cutL l).length ≤ l.length := by
  have := cutn_le l l.length
  rw [cutL_length]
  exact this
theorem C_cutL {w : World} {A : Option Addr} {l : List Int} (h : Kd.C (Kd.int .u32) w A l.length l) : Kd.C (Kd.int .u32) w A (cutL l).length (cutL l) := Kd.C_take h (cutn_le l l.length)
set_option maxHeartbeats 1000000 in
/-- cut, of a row that is read: the row's begin. -/
theorem cut_reads (A : Option Addr) (c : Nat) (l : List Int) (w : World) (hr : Kd.C (Kd.int .u32) w A l.length l) (hc : l.length ≤ c) :
    Calls Try.prog 92 #[.slice A l.length c] w fun e w' => e = .returned (.slice A (cutL l).length c) ∧ Drawn0 w w' := by
  have HR := Aside0.mk hr
  have hmax : l.length ≤ 9223372036854775807 := hr.2.1
  clear hr
  go_enter Try.func92, Try.ntmps92
  go_wp2
  go_loopg [3] l.length (fun kq v3 w' => ∃ n : Nat, v3 = .int .i64 n ∧ n = kq ∧ n ≤ l.length ∧ Aside0 (cutn l n = cutn l l.length) ∧ w' = w)
  case atStart => exact ⟨l.length, rfl, rfl, Nat.le_refl _, ⟨rfl⟩, rfl⟩
  case round =>
    obtain ⟨n, rfl, rfl, hn, HE, rfl⟩ := hrel
    cases n with
    | zero =>
      have HL : Aside0 ((cutL l).length = 0) := ⟨(cutL_length l).trans HE.out.symm⟩
      clear HE
      go_wp2
      go_ret
      exact ⟨by rw [HL.out]; rfl, Drawn0.refl _⟩
    | succ m =>
      obtain ⟨ad, e, hx⟩ := Kd.at_int HR.out (m : Int) (by omega) (by omega)
      cases e
      simp only [Int.toNat_natCast] at hx
      by_cases h0 : rd l m = 0
      · have h0b : (rd l m == 0) = true := beq_iff_eq.mpr h0
        have HE2 : Aside0 (cutn l m = cutn l l.length) := ⟨by rw [← HE.out, cutn, if_pos h0]⟩
        clear HE h0
        go_wp2
        go_roundg m
        case measure => omega
        case rel => exact ⟨m, by go_num, rfl, by omega, HE2, rfl⟩
      · have h0b : (rd l m == 0) = false := beq_eq_false_iff_ne.mpr h0
        have HL : Aside0 ((cutL l).length = m + 1) := ⟨by rw [cutL_length l, ← HE.out, cutn, if_neg h0]⟩
        clear HE h0
        go_wp2
        go_ret
        exact ⟨by rw [HL.out]; rfl, Drawn0.refl _⟩
end Go.Proofs.Ytjppanekddljbaa.H
/- nats.Cmp and nats.Mul: each function's Lean function and that the Go code computes it. -/
namespace Go.Proofs.Ytjppanekddljbaa.Pr
open Go.RowKit Go.Proofs.Ytjppanekddljbaa.H Go.Proofs.YtjppanekddljbaaW.PrintWords Go.Proofs.YtjppanekddljbaaW.PrintLast Go.Proofs.YtjppanekddljbaaW.PrintMore
attribute [local go_sem] max2_int min2_int max_two min_two max_three min_three max_four min_four
def nats_Cmp.l0 : Nat → List Int → List Int → Int → Option (Int)
 | 0, _, _, _ => none
 | k + 1, x0, x1, x5 => if x5 ≥ 0 then (if 0 ≤ x5 then (if x5 < (x0.length : Int) then (if x5 < (x1.length : Int) then (if (rd x0 x5) = (rd x1 x5) then (nats_Cmp.l0 k x0 x1 (wrap64 (x5 - 1))) else (if (rd x0 x5) < (rd x1 x5) then (some (-1)) else (some 1))) else (none)) else (none)) else (none)) else (some 0)
def nats_Cmp.g (k : Nat) (l0 : List Int) (l1 : List Int) : Option (Int) := if (l0.length : Int) = (l1.length : Int) then (nats_Cmp.l0 k l0 l1 (wrap64 ((l0.length : Int) - 1))) else (if (l0.length : Int) < (l1.length : Int) then (some (-1)) else (some 1))
def nats_Cmp.f (k : Nat) (l0 : List Int) (l1 : List Int) := nats_Cmp.g k (cutL l0) (cutL l1)
set_option maxHeartbeats 8000000 in
set_option maxRecDepth 100000 in
theorem nats_Cmp.calls (k : Nat) (A0 : Option Addr) (c0 : Nat) (l0 : List Int) (A1 : Option Addr) (c1 : Nat) (l1 : List Int) (r : Int) (w : World) (hr0 : Kd.C (Kd.int .u32) w A0 l0.length l0) (hc0 : l0.length ≤ c0) (hr1 : Kd.C (Kd.int .u32) w A1 l1.length l1) (hc1 : l1.length ≤ c1) (h : nats_Cmp.f k l0 l1 = some r) :
  Calls Try.prog 97 #[.slice A0 l0.length c0, .slice A1 l1.length c1] w fun e w' => e = .returned (.int .i64 r) ∧ Drawn0 w w' := by
 have HQ0 := Aside0.mk hr0
 have HQC0 := Aside0.mk hc0
 have HQ1 := Aside0.mk hr1
 have HQC1 := Aside0.mk hc1
 replace hr0 := C_cutL hr0
 replace hr1 := C_cutL hr1
 replace hc0 := Nat.le_trans (cutL_le l0) hc0
 replace hc1 := Nat.le_trans (cutL_le l1) hc1
 replace h : nats_Cmp.g k (cutL l0) (cutL l1) = some r := h
 obtain ⟨L0, hL0⟩ : ∃ L : List Int, L = l0 := ⟨_, rfl⟩
 obtain ⟨L1, hL1⟩ : ∃ L : List Int, L = l1 := ⟨_, rfl⟩
 subst hL0 hL1
 obtain ⟨q0, hq0⟩ : ∃ q : List Int, cutL L0 = q := ⟨_, rfl⟩
 obtain ⟨q1, hq1⟩ : ∃ q : List Int, cutL L1 = q := ⟨_, rfl⟩
 rw [hq0] at hr0 hc0 h
 rw [hq1] at hr1 hc1 h
 have N0 := Aside0.mk hq0
 have N1 := Aside0.mk hq1
 clear hq0 hq1
 have HR0 := Aside0.mk hr0
 have HC0 := Aside0.mk hc0
 clear hr0 hc0
 have HR1 := Aside0.mk hr1
 have HC1 := Aside0.mk hc1
 clear hr1 hc1
 have H : (if (q0.length : Int) = (q1.length : Int) then (nats_Cmp.l0 k q0 q1 (wrap64 ((q0.length : Int) - 1))) else (if (q0.length : Int) < (q1.length : Int) then (some (-1)) else (some 1))) = some r := h
 clear h
 by_cases c3 : (q0.length : Int) = (q1.length : Int)
 ·rw [if_pos c3] at H
  have c3b0 : ((q0.length : Int) == (q1.length : Int)) = true := beq_iff_eq.mpr c3
  have c3b1 : ((q0.length : Int) != (q1.length : Int)) = false := bne_eq_false_iff_eq.mpr c3
  have c3b2 : (q0.length == q1.length) = true := by first | simpa using c3 | (simp at c3 ⊢; omega)
  clear c3
  have H' := Aside0.mk H
  clear H
  go_enter Try.func97, Try.ntmps97
  go_wp2_with (first | ((with_reducible refine gate_callee (f := 92) rfl ?_); refine goesM (some 7) rfl rfl Try.func92 (by kernel_rfl) rfl #[.slice A0 L0.length c0] rfl (by rfl) ?_; (with_reducible refine (cut_reads A0 c0 L0 _ ?hq0 HQC0.out).mono ?_); (case hq0 => exact HQ0.out); rintro e w' ⟨rfl, ⟨nd, rfl⟩⟩; refine ⟨_, rfl, ?_⟩; rw [N0.out]) | ((with_reducible refine gate_callee (f := 92) rfl ?_); refine goesM (some 9) rfl rfl Try.func92 (by kernel_rfl) rfl #[.slice A1 L1.length c1] rfl (by rfl) ?_; (with_reducible refine (cut_reads A1 c1 L1 _ ?hq1 HQC1.out).mono ?_); (case hq1 => exact HQ1.out); rintro e w' ⟨rfl, ⟨nd, rfl⟩⟩; refine ⟨_, rfl, ?_⟩; rw [N1.out]))
  repeat (go_quiet (fail); try go_wp2)
  go_loopg [5] k (fun kq v5 w' => ∃ (x5_1 : Int), v5 = .int .i64 x5_1 ∧ Aside0 (nats_Cmp.l0 kq q0 q1 x5_1 = some r) ∧ Aside0 (kq ≤ k) ∧ Drawn0 w w')
  case atStart => exact ⟨(wrap64 ((q0.length : Int) - 1)), (by first | rfl | (simp; done) | (simp [*]; done)), H', ⟨Nat.le_refl _⟩, by repeat (first | exact Drawn0.refl _ | apply Drawn0.step)⟩
  case round =>
   clear H'
   try clear c1
   try clear p2
   try clear c3
   try clear c3b0
   try clear c3b1
   try clear c3b2
   obtain ⟨x5_1, rfl, HA, HK1, ⟨m1, rfl⟩⟩ := hrel
   cases gk with
   | zero => exact absurd HA.out (by simp [nats_Cmp.l0])
   | succ k1 =>
    have H := HA.out
    clear HA
    simp only [nats_Cmp.l0] at H
    by_cases c4 : x5_1 ≥ 0
    ·rw [if_pos c4] at H
     have c4b0 : decide (0 ≤ x5_1) = true := decide_eq_true c4
     clear c4
     by_cases c5 : 0 ≤ x5_1
     ·rw [if_pos c5] at H
      have c5b0 : decide (0 ≤ x5_1) = true := decide_eq_true c5
      clear c5
      by_cases c6 : x5_1 < (q0.length : Int)
      ·rw [if_pos c6] at H
       have c6b0 : decide (x5_1 < (q0.length : Int)) = true := decide_eq_true c6
       clear c6
       by_cases c7 : x5_1 < (q1.length : Int)
       ·rw [if_pos c7] at H
        have c7b0 : decide (x5_1 < (q1.length : Int)) = true := decide_eq_true c7
        clear c7
        by_cases c8 : (rd q0 x5_1) = (rd q1 x5_1)
        ·rw [if_pos c8] at H
         have c8b0 : ((rd q0 x5_1) == (rd q1 x5_1)) = true := beq_iff_eq.mpr c8
         have c8b1 : ((rd q0 x5_1) != (rd q1 x5_1)) = false := bne_eq_false_iff_eq.mpr c8
         clear c8
         have H' := Aside0.mk H
         clear H
         have p108 : 0 ≤ (x5_1 : Int) := of_decide_eq_true (by first | (with_reducible assumption) | assumption)
         have q108 : x5_1 < (q0.length : Int) := of_decide_eq_true (by first | (with_reducible assumption) | assumption)
         obtain ⟨ad108, e108, hx108_0⟩ := Kd.at_int HR0.out x5_1 p108 q108
         cases e108
         replace p108 := eq_true p108
         replace q108 := eq_true q108
         have p109 : 0 ≤ (x5_1 : Int) := of_decide_eq_true (by first | (with_reducible assumption) | assumption)
         have q109 : x5_1 < (q1.length : Int) := of_decide_eq_true (by first | (with_reducible assumption) | assumption)
         obtain ⟨ad109, e109, hx109_0⟩ := Kd.at_int HR1.out x5_1 p109 q109
         cases e109
         replace p109 := eq_true p109
         replace q109 := eq_true q109
         go_wp2
         repeat (go_quiet (fail); try go_wp2)
         go_roundg k1
         case measure => have := HK1.out; omega
         case rel => exact ⟨(wrap64 (x5_1 - 1)), (by first | rfl | (simp; done) | (simp [*]; done)), H', ⟨by have := HK1.out; omega⟩, by repeat (first | exact Drawn0.refl _ | apply Drawn0.step)⟩
        ·rw [if_neg c8] at H
         have c8b0 : ((rd q0 x5_1) == (rd q1 x5_1)) = false := beq_eq_false_iff_ne.mpr c8
         have c8b1 : ((rd q0 x5_1) != (rd q1 x5_1)) = true := bne_iff_ne.mpr c8
         by_cases c9 : (rd q0 x5_1) < (rd q1 x5_1)
         ·rw [if_pos c9] at H
          have c9b0 : decide ((rd q0 x5_1) < (rd q1 x5_1)) = true := decide_eq_true c9
          clear c9
          obtain rfl := Option.some.inj H
          have p108 : 0 ≤ (x5_1 : Int) := of_decide_eq_true (by first | (with_reducible assumption) | assumption)
          have q108 : x5_1 < (q0.length : Int) := of_decide_eq_true (by first | (with_reducible assumption) | assumption)
          obtain ⟨ad108, e108, hx108_0⟩ := Kd.at_int HR0.out x5_1 p108 q108
          cases e108
          replace p108 := eq_true p108
          replace q108 := eq_true q108
          have p109 : 0 ≤ (x5_1 : Int) := of_decide_eq_true (by first | (with_reducible assumption) | assumption)
          have q109 : x5_1 < (q1.length : Int) := of_decide_eq_true (by first | (with_reducible assumption) | assumption)
          obtain ⟨ad109, e109, hx109_0⟩ := Kd.at_int HR1.out x5_1 p109 q109
          cases e109
          replace p109 := eq_true p109
          replace q109 := eq_true q109
          have p110 : 0 ≤ (x5_1 : Int) := of_decide_eq_true (by first | (with_reducible assumption) | assumption)
          have q110 : x5_1 < (q0.length : Int) := of_decide_eq_true (by first | (with_reducible assumption) | assumption)
          obtain ⟨ad110, e110, hx110_0⟩ := Kd.at_int HR0.out x5_1 p110 q110
          obtain rfl : ad108 = ad110 := (by injection e110)
          replace p110 := eq_true p110
          replace q110 := eq_true q110
          have p111 : 0 ≤ (x5_1 : Int) := of_decide_eq_true (by first | (with_reducible assumption) | assumption)
          have q111 : x5_1 < (q1.length : Int) := of_decide_eq_true (by first | (with_reducible assumption) | assumption)
          obtain ⟨ad111, e111, hx111_0⟩ := Kd.at_int HR1.out x5_1 p111 q111
          obtain rfl : ad109 = ad111 := (by injection e111)
          replace p111 := eq_true p111
          replace q111 := eq_true q111
          go_wp2
          repeat (go_quiet (fail); try go_wp2)
          go_ret
          exact ⟨by first | rfl | (simp; done) | (simp [*]; done), by repeat (first | exact Drawn0.refl _ | apply Drawn0.step)⟩
         ·rw [if_neg c9] at H
          have c9b0 : decide ((rd q0 x5_1) < (rd q1 x5_1)) = false := decide_eq_false c9
          clear c9
          obtain rfl := Option.some.inj H
          have p108 : 0 ≤ (x5_1 : Int) := of_decide_eq_true (by first | (with_reducible assumption) | assumption)
          have q108 : x5_1 < (q0.length : Int) := of_decide_eq_true (by first | (with_reducible assumption) | assumption)
          obtain ⟨ad108, e108, hx108_0⟩ := Kd.at_int HR0.out x5_1 p108 q108
          cases e108
          replace p108 := eq_true p108
          replace q108 := eq_true q108
          have p109 : 0 ≤ (x5_1 : Int) := of_decide_eq_true (by first | (with_reducible assumption) | assumption)
          have q109 : x5_1 < (q1.length : Int) := of_decide_eq_true (by first | (with_reducible assumption) | assumption)
          obtain ⟨ad109, e109, hx109_0⟩ := Kd.at_int HR1.out x5_1 p109 q109
          cases e109
          replace p109 := eq_true p109
          replace q109 := eq_true q109
          have p110 : 0 ≤ (x5_1 : Int) := of_decide_eq_true (by first | (with_reducible assumption) | assumption)
          have q110 : x5_1 < (q0.length : Int) := of_decide_eq_true (by first | (with_reducible assumption) | assumption)
          obtain ⟨ad110, e110, hx110_0⟩ := Kd.at_int HR0.out x5_1 p110 q110
          obtain rfl : ad108 = ad110 := (by injection e110)
          replace p110 := eq_true p110
          replace q110 := eq_true q110
          have p111 : 0 ≤ (x5_1 : Int) := of_decide_eq_true (by first | (with_reducible assumption) | assumption)
          have q111 : x5_1 < (q1.length : Int) := of_decide_eq_true (by first | (with_reducible assumption) | assumption)
          obtain ⟨ad111, e111, hx111_0⟩ := Kd.at_int HR1.out x5_1 p111 q111
          obtain rfl : ad109 = ad111 := (by injection e111)
          replace p111 := eq_true p111
          replace q111 := eq_true q111
          go_wp2
          repeat (go_quiet (fail); try go_wp2)
          go_ret
          exact ⟨by first | rfl | (simp; done) | (simp [*]; done), by repeat (first | exact Drawn0.refl _ | apply Drawn0.step)⟩
       ·rw [if_neg c7] at H
        exact absurd H (by simp)
      ·rw [if_neg c6] at H
       exact absurd H (by simp)
     ·rw [if_neg c5] at H
      exact absurd H (by simp)
    ·rw [if_neg c4] at H
     have c4b0 : decide (0 ≤ x5_1) = false := decide_eq_false c4
     clear c4
     obtain rfl := Option.some.inj H
     go_wp2
     repeat (go_quiet (fail); try go_wp2)
     go_ret
     exact ⟨by first | rfl | (simp; done) | (simp [*]; done), by repeat (first | exact Drawn0.refl _ | apply Drawn0.step)⟩
 ·rw [if_neg c3] at H
  have c3b0 : ((q0.length : Int) == (q1.length : Int)) = false := beq_eq_false_iff_ne.mpr c3
  have c3b1 : ((q0.length : Int) != (q1.length : Int)) = true := bne_iff_ne.mpr c3
  have c3b2 : (q0.length == q1.length) = false := by first | simpa using c3 | (simp at c3 ⊢; omega)
  by_cases c10 : (q0.length : Int) < (q1.length : Int)
  ·rw [if_pos c10] at H
   have c10b0 : decide ((q0.length : Int) < (q1.length : Int)) = true := decide_eq_true c10
   have c10b1 : decide (q0.length < q1.length) = true := decide_eq_true (Int.ofNat_lt.mp c10)
   clear c10
   obtain rfl := Option.some.inj H
   go_enter Try.func97, Try.ntmps97
   go_wp2_with (first | ((with_reducible refine gate_callee (f := 92) rfl ?_); refine goesM (some 7) rfl rfl Try.func92 (by kernel_rfl) rfl #[.slice A0 L0.length c0] rfl (by rfl) ?_; (with_reducible refine (cut_reads A0 c0 L0 _ ?hq0 HQC0.out).mono ?_); (case hq0 => exact HQ0.out); rintro e w' ⟨rfl, ⟨nd, rfl⟩⟩; refine ⟨_, rfl, ?_⟩; rw [N0.out]) | ((with_reducible refine gate_callee (f := 92) rfl ?_); refine goesM (some 9) rfl rfl Try.func92 (by kernel_rfl) rfl #[.slice A1 L1.length c1] rfl (by rfl) ?_; (with_reducible refine (cut_reads A1 c1 L1 _ ?hq1 HQC1.out).mono ?_); (case hq1 => exact HQ1.out); rintro e w' ⟨rfl, ⟨nd, rfl⟩⟩; refine ⟨_, rfl, ?_⟩; rw [N1.out]))
   repeat (go_quiet (fail); try go_wp2)
   go_ret
   exact ⟨by first | rfl | (simp; done) | (simp [*]; done), by repeat (first | exact Drawn0.refl _ | apply Drawn0.step)⟩
  ·rw [if_neg c10] at H
   have c10b0 : decide ((q0.length : Int) < (q1.length : Int)) = false := decide_eq_false c10
   have c10b1 : decide (q0.length < q1.length) = false := decide_eq_false (fun h => c10 (Int.ofNat_lt.mpr h))
   clear c10
   obtain rfl := Option.some.inj H
   go_enter Try.func97, Try.ntmps97
   go_wp2_with (first | ((with_reducible refine gate_callee (f := 92) rfl ?_); refine goesM (some 7) rfl rfl Try.func92 (by kernel_rfl) rfl #[.slice A0 L0.length c0] rfl (by rfl) ?_; (with_reducible refine (cut_reads A0 c0 L0 _ ?hq0 HQC0.out).mono ?_); (case hq0 => exact HQ0.out); rintro e w' ⟨rfl, ⟨nd, rfl⟩⟩; refine ⟨_, rfl, ?_⟩; rw [N0.out]) | ((with_reducible refine gate_callee (f := 92) rfl ?_); refine goesM (some 9) rfl rfl Try.func92 (by kernel_rfl) rfl #[.slice A1 L1.length c1] rfl (by rfl) ?_; (with_reducible refine (cut_reads A1 c1 L1 _ ?hq1 HQC1.out).mono ?_); (case hq1 => exact HQ1.out); rintro e w' ⟨rfl, ⟨nd, rfl⟩⟩; refine ⟨_, rfl, ?_⟩; rw [N1.out]))
   repeat (go_quiet (fail); try go_wp2)
   go_ret
   exact ⟨by first | rfl | (simp; done) | (simp [*]; done), by repeat (first | exact Drawn0.refl _ | apply Drawn0.step)⟩
mutual
def nats_Mul.l0 : Nat → List Int → List Int → List Int → Int → Int → Option (List Int)
 | 0, _, _, _, _, _ => none
 | k + 1, x1, x5, x22, x23, x24 => if x24 < x23 then (if 0 ≤ x24 then (if x24 < (x22.length : Int) then (nats_Mul.l1 k x1 x5 x24 (rd x22 x24) 0 x22 x23 x24 x1 (x1.length : Int) 0) else (none)) else (none)) else ((nats_cut.f k x5).bind fun t290 => (some t290))
def nats_Mul.l1 : Nat → List Int → List Int → Int → Int → Int → List Int → Int → Int → List Int → Int → Int → Option (List Int)
 | 0, _, _, _, _, _, _, _, _, _, _, _ => none
 | k + 1, x1, x5, x6, x7, x8, x22, x23, x24, x29, x30, x31 => if x31 < x30 then (if 0 ≤ x31 then (if x31 < (x29.length : Int) then (if 0 ≤ (wrap64 (x6 + x31)) then (if (wrap64 (x6 + x31)) < (x5.length : Int) then (nats_Mul.l1 k x1 (x5.set ((wrap64 (x6 + x31)) : Int).toNat ((IntKind.u64.wrap ((IntKind.u64.wrap ((IntKind.u64.wrap ((IntKind.u64.wrap (x7)) * (IntKind.u64.wrap (rd x29 x31)))) + (IntKind.u64.wrap (rd x5 (wrap64 (x6 + x31)))))) + x8)) % 4294967296)) x6 x7 ((IntKind.u64.wrap ((IntKind.u64.wrap ((IntKind.u64.wrap ((IntKind.u64.wrap (x7)) * (IntKind.u64.wrap (rd x29 x31)))) + (IntKind.u64.wrap (rd x5 (wrap64 (x6 + x31)))))) + x8)) / 4294967296) x22 x23 x24 x29 x30 (wrap64 (x31 + 1))) else (none)) else (none)) else (none)) else (none)) else (if 0 ≤ (wrap64 (x6 + (x1.length : Int))) then (if (wrap64 (x6 + (x1.length : Int))) < (x5.length : Int) then (nats_Mul.l0 k x1 (x5.set ((wrap64 (x6 + (x1.length : Int))) : Int).toNat ((x8) % 4294967296)) x22 x23 (wrap64 (x24 + 1))) else (none)) else (none))
end
def nats_Mul.g (k : Nat) (l0 : List Int) (l1 : List Int) : Option (List Int) := if 0 ≤ (wrap64 ((l0.length : Int) + (l1.length : Int))) then (if (wrap64 ((l0.length : Int) + (l1.length : Int)) : Int).toNat ≤ 70368744177664 then (nats_Mul.l0 k l1 (List.replicate (wrap64 ((l0.length : Int) + (l1.length : Int)) : Int).toNat 0) l0 (l0.length : Int) 0) else (none)) else (none)
def nats_Mul.f (k : Nat) (l0 : List Int) (l1 : List Int) := nats_Mul.g k (cutL l0) (cutL l1)
set_option maxHeartbeats 8000000 in
set_option maxRecDepth 100000 in
theorem nats_Mul.calls (k : Nat) (A0 : Option Addr) (c0 : Nat) (l0 : List Int) (A1 : Option Addr) (c1 : Nat) (l1 : List Int) (r : List Int) (w : World) (hr0 : Kd.C (Kd.int .u32) w A0 l0.length l0) (hc0 : l0.length ≤ c0) (hr1 : Kd.C (Kd.int .u32) w A1 l1.length l1) (hc1 : l1.length ≤ c1) (h : nats_Mul.f k l0 l1 = some r) :
  Calls Try.prog 67 #[.slice A0 l0.length c0, .slice A1 l1.length c1] w fun e w' => ∃ v0_ : Value, e = .returned (v0_) ∧ Kd.R (Kd.int .u32) 99 w' w.heap.size (fun _ => True) v0_ r ∧ Below w.heap.size w w' := by
 have HQ0 := Aside0.mk hr0
 have HQC0 := Aside0.mk hc0
 have HQ1 := Aside0.mk hr1
 have HQC1 := Aside0.mk hc1
 replace hr0 := C_cutL hr0
 replace hr1 := C_cutL hr1
 replace hc0 := Nat.le_trans (cutL_le l0) hc0
 replace hc1 := Nat.le_trans (cutL_le l1) hc1
 replace h : nats_Mul.g k (cutL l0) (cutL l1) = some r := h
 obtain ⟨L0, hL0⟩ : ∃ L : List Int, L = l0 := ⟨_, rfl⟩
 obtain ⟨L1, hL1⟩ : ∃ L : List Int, L = l1 := ⟨_, rfl⟩
 subst hL0 hL1
 obtain ⟨q0, hq0⟩ : ∃ q : List Int, cutL L0 = q := ⟨_, rfl⟩
 obtain ⟨q1, hq1⟩ : ∃ q : List Int, cutL L1 = q := ⟨_, rfl⟩
 rw [hq0] at hr0 hc0 h
 rw [hq1] at hr1 hc1 h
 have N0 := Aside0.mk hq0
 have N1 := Aside0.mk hq1
 clear hq0 hq1
 have HR0 := Aside0.mk hr0
 have HC0 := Aside0.mk hc0
 clear hr0 hc0
 have HR1 := Aside0.mk hr1
 have HC1 := Aside0.mk hc1
 clear hr1 hc1
 have HB := Aside0.mk (Below.refl w.heap.size w)
 have H : (if 0 ≤ (wrap64 ((q0.length : Int) + (q1.length : Int))) then (if (wrap64 ((q0.length : Int) + (q1.length : Int)) : Int).toNat ≤ 70368744177664 then (nats_Mul.l0 k q1 (List.replicate (wrap64 ((q0.length : Int) + (q1.length : Int)) : Int).toNat 0) q0 (q0.length : Int) 0) else (none)) else (none)) = some r := h
 clear h
 obtain ⟨ji3, hji3⟩ : ∃ j_ : Int, (wrap64 ((q0.length : Int) + (q1.length : Int))) = j_ := ⟨_, rfl⟩
 replace H : (if 0 ≤ (ji3) then (if (ji3 : Int).toNat ≤ 70368744177664 then (nats_Mul.l0 k q1 (List.replicate (ji3 : Int).toNat 0) q0 (q0.length : Int) 0) else (none)) else (none)) = some r := by first | (rw [hji3] at H; exact H) | (simp only [hji3] at H ⊢; exact H)
 have hji3w : (IntKind.i64.wrap ((q0.length : Int) + (q1.length : Int))) = ji3 := (i64_w _).trans hji3
 by_cases c4 : 0 ≤ (ji3)
 ·rw [if_pos c4] at H
  have c4b0 := eq_true c4
  have c4b1 : decide (0 ≤ (ji3)) = true := decide_eq_true c4
  clear c4
  by_cases c5 : (ji3 : Int).toNat ≤ 70368744177664
  ·rw [if_pos c5] at H
   have c5b0 := eq_true c5
   have c5b1 : decide ((ji3 : Int).toNat ≤ 70368744177664) = true := decide_eq_true c5
   clear c5
   obtain ⟨y287, hy287⟩ : ∃ y_ : List Int, y_ = (List.replicate (ji3 : Int).toNat 0) := ⟨_, rfl⟩
   replace H : (nats_Mul.l0 k q1 y287 q0 (q0.length : Int) 0) = some r := by rw [hy287]; exact H
   have Ny287 := Aside0.mk hy287
   clear hy287
   have H' := Aside0.mk H
   clear H
   go_enter Try.func67, Try.ntmps67
   go_wp2_with (first | ((with_reducible refine gate_callee (f := 92) rfl ?_); refine goesM (some 13) rfl rfl Try.func92 (by kernel_rfl) rfl #[.slice A0 L0.length c0] rfl (by rfl) ?_; (with_reducible refine (cut_reads A0 c0 L0 _ ?hq0 HQC0.out).mono ?_); (case hq0 => exact HQ0.out); rintro e w' ⟨rfl, ⟨nd, rfl⟩⟩; refine ⟨_, rfl, ?_⟩; rw [N0.out]) | ((with_reducible refine gate_callee (f := 92) rfl ?_); refine goesM (some 15) rfl rfl Try.func92 (by kernel_rfl) rfl #[.slice A1 L1.length c1] rfl (by rfl) ?_; (with_reducible refine (cut_reads A1 c1 L1 _ ?hq1 HQC1.out).mono ?_); (case hq1 => exact HQ1.out); rintro e w' ⟨rfl, ⟨nd, rfl⟩⟩; refine ⟨_, rfl, ?_⟩; rw [N1.out]) | ((with_reducible refine gate_dst (N := 21) rfl ?_); refine Kd.R_make (Kd.int .u32) _ 99 rfl (N := 21) rfl 34 _ _ rfl ji3 rfl rfl Try.underlying34 (.int .u32 0) 4 info99 rfl (by decide) (by omega) 0 (ok := fun _ => True) (okp := fun _ => True) rfl (fun _ hk => hk) trivial (of_decide_eq_true (by first | (with_reducible assumption) | assumption)) (Nat.le_trans (Nat.mul_le_mul_right _ (of_decide_eq_true (by first | (with_reducible assumption) | assumption) : ji3.toNat ≤ 70368744177664)) (by omega)) (Below.refl _ _) (Nat.le_refl _) ?_; intro v288 w6 ho7 hb hg_ hnew_; clear hg_ hnew_; (first | rw [← Ny287.out] at ho7 | (simp only [Int.reduceToNat] at ho7; rw [← Ny287.out] at ho7)); have n_ := mk2 (Kd.R_lower ho7 (below_size (bl HB))) (below_step (bl HB) hb); clear HB; obtain ⟨HO289, HB⟩ := n_; clear hb ho7))
   go_loopg [24] k (fun kq v24 w' => ∃ (x5_1 : List Int) (x24_1 : Int), v24 = .int .i64 x24_1 ∧ Aside0 (nats_Mul.l0 kq q1 x5_1 q0 (q0.length : Int) x24_1 = some r) ∧ Aside0 (kq ≤ k) ∧ Aside0 (Kd.R (Kd.int .u32) 99 w' w.heap.size (fun _ => True) v288 x5_1) ∧ Aside0 (Below w.heap.size w w'))
   case atStart => exact ⟨(y287), (0), (by first | rfl | (simp; done) | (simp [*]; done)), H', ⟨Nat.le_refl _⟩, ⟨ra HO289.out⟩, ⟨bl HB⟩⟩
   case round =>
    clear H'
    try clear c1
    try clear p2
    try clear c4
    try clear c4b0
    try clear c4b1
    try clear c5
    try clear c5b0
    try clear c5b1
    try clear c6
    try clear p6
    obtain ⟨x5_1, x24_1, rfl, HA, HK1, HO_5, HB⟩ := hrel
    cases gk with
    | zero => exact absurd HA.out (by simp [nats_Mul.l0])
    | succ k1 =>
     have H := HA.out
     clear HA
     simp only [nats_Mul.l0] at H
     by_cases c8 : x24_1 < (q0.length : Int)
     ·rw [if_pos c8] at H
      have c8b0 : decide (x24_1 < (q0.length : Int)) = true := decide_eq_true c8
      clear c8
      by_cases c9 : 0 ≤ x24_1
      ·rw [if_pos c9] at H
       have c9b0 : decide (0 ≤ x24_1) = true := decide_eq_true c9
       clear c9
       by_cases c10 : x24_1 < (q0.length : Int)
       ·rw [if_pos c10] at H
        have c10b0 : decide (x24_1 < (q0.length : Int)) = true := decide_eq_true c10
        clear c10
        have H' := Aside0.mk H
        clear H
        have p293 : 0 ≤ (x24_1 : Int) := of_decide_eq_true (by first | (with_reducible assumption) | assumption)
        have q293 : x24_1 < (q0.length : Int) := of_decide_eq_true (by first | (with_reducible assumption) | assumption)
        obtain ⟨ad293, e293, hx293_0⟩ := Kd.at_int HR0.out x24_1 p293 q293
        cases e293
        replace hx293_0 := (HB.out.cell (World.block_lt_of_cell? w _ hx293_0)).trans hx293_0
        replace p293 := eq_true p293
        replace q293 := eq_true q293
        go_wp2
        go_loopg [8, 31] k1 (fun kq v8 v31 w' => ∃ (x5_2 : List Int) (x8_2 : Int) (x31_2 : Int), v8 = .int .u64 x8_2 ∧ v31 = .int .i64 x31_2 ∧ Aside0 (nats_Mul.l1 kq q1 x5_2 x24_1 (rd q0 x24_1) x8_2 q0 (q0.length : Int) x24_1 q1 (q1.length : Int) x31_2 = some r) ∧ Aside0 (kq ≤ k1) ∧ Aside0 (Kd.R (Kd.int .u32) 99 w' w.heap.size (fun _ => True) v288 x5_2) ∧ Aside0 (Below w.heap.size w w'))
        case atStart => exact ⟨(x5_1), (0), (0), (by first | rfl | (simp; done) | (simp [*]; done)), (by first | rfl | (simp; done) | (simp [*]; done)), H', ⟨Nat.le_refl _⟩, ⟨ra HO_5.out⟩, ⟨bl HB⟩⟩
        case round =>
         clear H'
         try clear c1
         try clear p2
         try clear q2
         try clear hx2
         try clear c4
         try clear c4b0
         try clear c4b1
         try clear c5
         try clear c5b0
         try clear c5b1
         try clear c6
         try clear p6
         try clear c8
         try clear c8b0
         try clear c9
         try clear c9b0
         try clear c10
         try clear c10b0
         try clear hx293_0
         try clear p2
         try clear p293
         try clear p6
         try clear q293
         obtain ⟨x5_2, x8_2, x31_2, rfl, rfl, HA, HK2, HO_5, HB⟩ := hrel
         cases gk with
         | zero => exact absurd HA.out (by simp [nats_Mul.l1])
         | succ k2 =>
          have H := HA.out
          clear HA
          simp only [nats_Mul.l1] at H
          by_cases c11 : x31_2 < (q1.length : Int)
          ·rw [if_pos c11] at H
           have c11b0 : decide (x31_2 < (q1.length : Int)) = true := decide_eq_true c11
           clear c11
           by_cases c12 : 0 ≤ x31_2
           ·rw [if_pos c12] at H
            have c12b0 : decide (0 ≤ x31_2) = true := decide_eq_true c12
            clear c12
            by_cases c13 : x31_2 < (q1.length : Int)
            ·rw [if_pos c13] at H
             have c13b0 : decide (x31_2 < (q1.length : Int)) = true := decide_eq_true c13
             clear c13
             obtain ⟨ji14, hji14⟩ : ∃ j_ : Int, (wrap64 (x24_1 + x31_2)) = j_ := ⟨_, rfl⟩
             replace H : (if 0 ≤ (ji14) then (if (ji14) < (x5_2.length : Int) then (nats_Mul.l1 k2 q1 (x5_2.set ((ji14) : Int).toNat ((IntKind.u64.wrap ((IntKind.u64.wrap ((IntKind.u64.wrap ((IntKind.u64.wrap ((rd q0 x24_1))) * (IntKind.u64.wrap (rd q1 x31_2)))) + (IntKind.u64.wrap (rd x5_2 (ji14))))) + x8_2)) % 4294967296)) x24_1 (rd q0 x24_1) ((IntKind.u64.wrap ((IntKind.u64.wrap ((IntKind.u64.wrap ((IntKind.u64.wrap ((rd q0 x24_1))) * (IntKind.u64.wrap (rd q1 x31_2)))) + (IntKind.u64.wrap (rd x5_2 (ji14))))) + x8_2)) / 4294967296) q0 (q0.length : Int) x24_1 q1 (q1.length : Int) (wrap64 (x31_2 + 1))) else (none)) else (none)) = some r := by first | (rw [hji14] at H; exact H) | (simp only [hji14] at H ⊢; exact H)
             have hji14w : (IntKind.i64.wrap (x24_1 + x31_2)) = ji14 := (i64_w _).trans hji14
             by_cases c15 : 0 ≤ (ji14)
             ·rw [if_pos c15] at H
              have c15b0 : decide (0 ≤ (ji14)) = true := decide_eq_true c15
              clear c15
              by_cases c16 : (ji14) < (x5_2.length : Int)
              ·rw [if_pos c16] at H
               have c16b0 : decide ((ji14) < (x5_2.length : Int)) = true := decide_eq_true c16
               clear c16
               obtain ⟨y296, hy296⟩ : ∃ y_ : List Int, y_ = (x5_2.set ((ji14) : Int).toNat ((IntKind.u64.wrap ((IntKind.u64.wrap ((IntKind.u64.wrap ((IntKind.u64.wrap ((rd q0 x24_1))) * (IntKind.u64.wrap (rd q1 x31_2)))) + (IntKind.u64.wrap (rd x5_2 (ji14))))) + x8_2)) % 4294967296)) := ⟨_, rfl⟩
               replace H : (nats_Mul.l1 k2 q1 y296 x24_1 (rd q0 x24_1) ((IntKind.u64.wrap ((IntKind.u64.wrap ((IntKind.u64.wrap ((IntKind.u64.wrap ((rd q0 x24_1))) * (IntKind.u64.wrap (rd q1 x31_2)))) + (IntKind.u64.wrap (rd x5_2 (ji14))))) + x8_2)) / 4294967296) q0 (q0.length : Int) x24_1 q1 (q1.length : Int) (wrap64 (x31_2 + 1))) = some r := by rw [hy296]; exact H
               have Ny296 := Aside0.mk hy296
               clear hy296
               have H' := Aside0.mk H
               clear H
               have p294 : 0 ≤ (x31_2 : Int) := of_decide_eq_true (by first | (with_reducible assumption) | assumption)
               have q294 : x31_2 < (q1.length : Int) := of_decide_eq_true (by first | (with_reducible assumption) | assumption)
               obtain ⟨ad294, e294, hx294_0⟩ := Kd.at_int HR1.out x31_2 p294 q294
               cases e294
               replace hx294_0 := (HB.out.cell (World.block_lt_of_cell? w _ hx294_0)).trans hx294_0
               replace p294 := eq_true p294
               replace q294 := eq_true q294
               obtain ⟨Ao18, co18, eo18⟩ := Kd.R_slice HO_5.out
               subst eo18
               have p295 : 0 ≤ ((ji14) : Int) := of_decide_eq_true (by first | (with_reducible assumption) | assumption)
               have q295 : (ji14) < (x5_2.length : Int) := of_decide_eq_true (by first | (with_reducible assumption) | assumption)
               obtain ⟨ad295, e295, hx295_0⟩ := Kd.at_int (Kd.R_reads' HO_5.out).2.2 (ji14) p295 q295
               cases e295
               replace p295 := eq_true p295
               replace q295 := eq_true q295
               have p17 : 0 ≤ ((ji14) : Int) := of_decide_eq_true (by first | (with_reducible assumption) | assumption)
               have q17 : ((ji14) : Int) < ((x5_2.length : Int) : Int) := of_decide_eq_true (by first | (with_reducible assumption) | assumption)
               obtain ⟨go17, co17, eo17, gb17, gl17, cl17, HG17⟩ := Kd.R_form HO_5.out (by omega)
               (first | cases eo17 | (injection eo17 with ea_ en_ ec_; (first | subst ea_ | (injection ea_ with ea_; subst ea_)); subst ec_; clear en_))
               have GB17 := Aside0.mk gb17
               have GG17 := Aside0.mk HG17
               clear gb17 gl17 HG17
               (first | simp only [add_plain] at hx295_0 | skip)
               obtain ⟨hx17_0, hf17_0⟩ := Kd.R_celln 0 HO_5.out ((ji14) : Int) p17 q17
               replace p17 := eq_true p17
               replace q17 := eq_true q17
               have HP19 := Kd.R_putg HO_5.out ((ji14) : Int) ((IntKind.u64.wrap ((IntKind.u64.wrap ((IntKind.u64.wrap ((IntKind.u64.wrap ((rd q0 x24_1))) * (IntKind.u64.wrap (rd q1 x31_2)))) + (IntKind.u64.wrap (rd x5_2 (ji14))))) + x8_2)) % 4294967296)
               go_wp2_with (first | ((with_reducible refine gate_store (t := 99) (p := 59) rfl ?_); refine store_event (t := 99) (p := 59) (v := ?vo_w20) (w1 := (wr.setCell ⟨go17, ((ji14) : Int).toNat, none⟩ (.int .u32 ((IntKind.u64.wrap ((IntKind.u64.wrap ((IntKind.u64.wrap ((IntKind.u64.wrap ((rd q0 x24_1))) * (IntKind.u64.wrap (rd q1 x31_2)))) + (IntKind.u64.wrap (rd x5_2 (ji14))))) + x8_2)) % 4294967296)))) ?hg ?ho ?hn ?hr ?_; (case ho => rfl); (case hg => rfl); (case hn => rfl); (case hr => first | (go_simp; done) | (go_simp; rfl)); intro w20 hw; have hg : wr.grownBy w20 (some go17) := (by rw [hw]; exact HP19.2); have hp_ : Kd.R (Kd.int .u32) 99 w20 w.heap.size (fun _ => True) (.slice (some ⟨go17, 0, none⟩) x5_2.length co18) y296 := (by rw [hw, Ny296.out]; exact HP19.1); clear HP19; have n_ := mk2 (hp_) ((by rw [hw]; exact below_set (HB.out) GB17.out : Below w.heap.size w w20)); clear HO_5 HB; obtain ⟨HO_5, HB⟩ := n_; clear hg hw hp_))
               go_roundg k2
               case measure => have := HK1.out; have := HK2.out; omega
               case rel => exact ⟨(y296), ((IntKind.u64.wrap ((IntKind.u64.wrap ((IntKind.u64.wrap ((IntKind.u64.wrap ((rd q0 x24_1))) * (IntKind.u64.wrap (rd q1 x31_2)))) + (IntKind.u64.wrap (rd x5_2 (ji14))))) + x8_2)) / 4294967296), (wrap64 (x31_2 + 1)), (by first | rfl | (simp; done) | (simp only [← hji14] <;> (first | rfl | simp)) | (simp [*]; done)), (by first | rfl | (simp; done) | (simp [*]; done)), H', ⟨by have := HK1.out; have := HK2.out; omega⟩, ⟨ra HO_5.out⟩, ⟨bl HB⟩⟩
              ·rw [if_neg c16] at H
               exact absurd H (by simp)
             ·rw [if_neg c15] at H
              exact absurd H (by simp)
            ·rw [if_neg c13] at H
             exact absurd H (by simp)
           ·rw [if_neg c12] at H
            exact absurd H (by simp)
          ·rw [if_neg c11] at H
           have c11b0 : decide (x31_2 < (q1.length : Int)) = false := decide_eq_false c11
           clear c11
           obtain ⟨ji21, hji21⟩ : ∃ j_ : Int, (wrap64 (x24_1 + (q1.length : Int))) = j_ := ⟨_, rfl⟩
           replace H : (if 0 ≤ (ji21) then (if (ji21) < (x5_2.length : Int) then (nats_Mul.l0 k2 q1 (x5_2.set ((ji21) : Int).toNat ((x8_2) % 4294967296)) q0 (q0.length : Int) (wrap64 (x24_1 + 1))) else (none)) else (none)) = some r := by first | (rw [hji21] at H; exact H) | (simp only [hji21] at H ⊢; exact H)
           have hji21w : (IntKind.i64.wrap (x24_1 + (q1.length : Int))) = ji21 := (i64_w _).trans hji21
           by_cases c22 : 0 ≤ (ji21)
           ·rw [if_pos c22] at H
            have c22b0 : decide (0 ≤ (ji21)) = true := decide_eq_true c22
            clear c22
            by_cases c23 : (ji21) < (x5_2.length : Int)
            ·rw [if_pos c23] at H
             have c23b0 : decide ((ji21) < (x5_2.length : Int)) = true := decide_eq_true c23
             clear c23
             obtain ⟨y297, hy297⟩ : ∃ y_ : List Int, y_ = (x5_2.set ((ji21) : Int).toNat ((x8_2) % 4294967296)) := ⟨_, rfl⟩
             replace H : (nats_Mul.l0 k2 q1 y297 q0 (q0.length : Int) (wrap64 (x24_1 + 1))) = some r := by rw [hy297]; exact H
             have Ny297 := Aside0.mk hy297
             clear hy297
             have H' := Aside0.mk H
             clear H
             have p24 : 0 ≤ ((ji21) : Int) := of_decide_eq_true (by first | (with_reducible assumption) | assumption)
             have q24 : ((ji21) : Int) < ((x5_2.length : Int) : Int) := of_decide_eq_true (by first | (with_reducible assumption) | assumption)
             obtain ⟨go24, co24, eo24, gb24, gl24, cl24, HG24⟩ := Kd.R_form HO_5.out (by omega)
             (first | cases eo24 | (injection eo24 with ea_ en_ ec_; (first | subst ea_ | (injection ea_ with ea_; subst ea_)); subst ec_; clear en_))
             have GB24 := Aside0.mk gb24
             have GG24 := Aside0.mk HG24
             clear gb24 gl24 HG24
             obtain ⟨hx24_0, hf24_0⟩ := Kd.R_celln 0 HO_5.out ((ji21) : Int) p24 q24
             replace p24 := eq_true p24
             replace q24 := eq_true q24
             have HP25 := Kd.R_putg HO_5.out ((ji21) : Int) ((x8_2) % 4294967296)
             go_wp2_with (first | ((with_reducible refine gate_store (t := 99) (p := 68) rfl ?_); refine store_event (t := 99) (p := 68) (v := ?vo_w26) (w1 := (wr.setCell ⟨go24, ((ji21) : Int).toNat, none⟩ (.int .u32 ((x8_2) % 4294967296)))) ?hg ?ho ?hn ?hr ?_; (case ho => rfl); (case hg => rfl); (case hn => rfl); (case hr => first | (go_simp; done) | (go_simp; rfl)); intro w26 hw; have hg : wr.grownBy w26 (some go24) := (by rw [hw]; exact HP25.2); have hp_ : Kd.R (Kd.int .u32) 99 w26 w.heap.size (fun _ => True) (.slice (some ⟨go24, 0, none⟩) x5_2.length co24) y297 := (by rw [hw, Ny297.out]; exact HP25.1); clear HP25; have n_ := mk2 (hp_) ((by rw [hw]; exact below_set (HB.out) GB24.out : Below w.heap.size w w26)); clear HO_5 HB; obtain ⟨HO_5, HB⟩ := n_; clear hg hw hp_))
             go_roundg k2
             case measure => have := HK1.out; have := HK2.out; omega
             case rel => exact ⟨(y297), (wrap64 (x24_1 + 1)), (by first | rfl | (simp; done) | (simp [*]; done)), H', ⟨by have := HK1.out; have := HK2.out; omega⟩, ⟨ra HO_5.out⟩, ⟨bl HB⟩⟩
            ·rw [if_neg c23] at H
             exact absurd H (by simp)
           ·rw [if_neg c22] at H
            exact absurd H (by simp)
       ·rw [if_neg c10] at H
        exact absurd H (by simp)
      ·rw [if_neg c9] at H
       exact absurd H (by simp)
     ·rw [if_neg c8] at H
      have c8b0 : decide (x24_1 < (q0.length : Int)) = false := decide_eq_false c8
      clear c8
      obtain ⟨t290, A27, H⟩ := bindA H
      obtain rfl := Option.some.inj H
      obtain ⟨Ao28, co28, eo28⟩ := Kd.R_slice HO_5.out
      subst eo28
      go_wp2_with (first | ((with_reducible refine gate_callee (f := 92) rfl ?_); refine goesM (some 71) rfl rfl Try.func92 (by kernel_rfl) rfl #[.slice Ao28 x5_1.length co28] rfl (by rfl) ?_; (with_reducible refine (nats_cut.calls k1 (fun k_ => some k_ = (.slice Ao28 x5_1.length co28 : Value).ownBlock) (.slice Ao28 x5_1.length co28) x5_1 t290 w _ ?side1 ?side2 A27.out).mono ?_); (case side1 => exact bl HB); (case side2 => exact Kd.R_tight rfl HO_5.out); rintro e w29 ⟨v291, rfl, ho0, hb, hkp⟩; refine ⟨_, rfl, ?_⟩; have n_ := mk2 (Kd.R_mono (ok' := fun k_ => True) ho0 (fun k_ hk_ => trivial)) (hb); clear HB HO_5; obtain ⟨HO292, HB⟩ := n_; (try clear hb); (try clear hkp); (try clear ho0)))
      go_ret
      exact ⟨_, by first | rfl | (simp [errW_none, errW_some] <;> rfl) | (simp only [← hji3]; first | rfl | (simp [errW_none, errW_some] <;> rfl)) | (simp [*, errW_none, errW_some] <;> rfl), ra HO292.out, bl HB⟩
  ·rw [if_neg c5] at H
   exact absurd H (by simp)
 ·rw [if_neg c4] at H
  exact absurd H (by simp)
end Go.Proofs.Ytjppanekddljbaa.Pr
/- nats.Trim and oracle.Of: each Lean function and that the Go code computes it. -/
namespace Go.Proofs.Ytjppanekddljbaa.Pr
open Go.RowKit Go.Proofs.Ytjppanekddljbaa.H Go.Proofs.YtjppanekddljbaaW.PrintWords Go.Proofs.YtjppanekddljbaaW.PrintLast Go.Proofs.YtjppanekddljbaaW.PrintMore
attribute [local go_sem] max2_int min2_int max_two min_two max_three min_three max_four min_four
theorem R_make0 {w w1 : World} {v : Value} (h : w1.ownsRow w.heap.size 3 1 v 0 []) : Kd.R (Kd.int .i64) 3 w1 w.heap.size (fun _ => True) v [] := Kd.R_of_own h (fun _ _ => trivial)
def nats_Trim.f (_k : Nat) (l0 : List Int) : Option (List Int) := if l0.length < 35184372088832 then some (cutL l0) else none
set_option maxHeartbeats 1000000 in
theorem nats_Trim.calls (k : Nat) (A0 : Option Addr) (c0 : Nat) (l0 : List Int) (r : List Int) (w : World) (hr0 : Kd.C (Kd.int .u32) w A0 l0.length l0) (hc0 : l0.length ≤ c0) (h : nats_Trim.f k l0 = some r) :
  Calls Try.prog 64 #[.slice A0 l0.length c0] w fun e w' => ∃ v0_ : Value, e = .returned (v0_) ∧ Kd.R (Kd.int .u32) 99 w' w.heap.size (fun _ => True) v0_ r ∧ Below w.heap.size w w' := by
 have hbig : l0.length < 35184372088832 := by
  refine Decidable.byContradiction fun hn => ?_
  rw [nats_Trim.f, if_neg hn] at h
  exact absurd h (by simp)
 rw [nats_Trim.f, if_pos hbig] at h
 have HE0 := Aside0.mk (Option.some.inj h)
 have HR := Aside0.mk hr0
 clear hr0 h
 go_enter Try.func64, Try.ntmps64
 go_wp2
 go_loopg [3] l0.length (fun kq v3 w' => ∃ n : Nat, v3 = .int .i64 n ∧ n = kq ∧ n ≤ l0.length ∧ Aside0 (cutn l0 n = cutn l0 l0.length) ∧ w' = w)
 case atStart => exact ⟨l0.length, rfl, rfl, Nat.le_refl _, ⟨rfl⟩, rfl⟩
 case round =>
  obtain ⟨n, rfl, rfl, hn, HE, rfl⟩ := hrel
  cases n with
  | zero =>
   have HL : Aside0 (l0.take 0 = r) := ⟨by rw [← HE0.out, cutL, ← HE.out]; rfl⟩
   clear HE
   have HRT := Aside0.mk (Kd.C_take (m := 0) HR.out (by omega))
   go_wp2_with (first | ((with_reducible refine gate_builtin (b := .append) (xs := #[.const (.slice none 0 0), .tmp 20]) rfl ?_); at_builtin; refine Kd.R_append_row (Value.int .u32) 0 (h1 := fun _ => rfl) (w0 := wr) wr.heap.size rfl (.const (.slice none 0 0)) (.tmp 20) 34 99 (.int .u32 0) 4 rfl Try.underlying34 info99 rfl (by omega) (.slice none 0 0) ([] : List Int) (l0.take 0) _ 0 _ (fun _ => True) rfl rfl (fun _ _ => trivial) (Kd.R_nil _ _ _ _ _) ?aR (Below.refl _ _) (Nat.le_refl _) ?aL ?_; (case aR => exact HRT.out); (case aL => simp); intro v1 w1 ho hb _ _; have HO := Aside0.mk ho; have HB := Aside0.mk hb; clear ho hb))
   go_ret
   exact ⟨_, rfl, by rw [← HL.out]; exact HO.out, HB.out⟩
  | succ m =>
   obtain ⟨ad, e, hx⟩ := Kd.at_int HR.out (m : Int) (by omega) (by omega)
   cases e
   simp only [Int.toNat_natCast] at hx
   by_cases h0 : rd l0 m = 0
   ·have h0b : (rd l0 m == 0) = true := beq_iff_eq.mpr h0
    have HE2 : Aside0 (cutn l0 m = cutn l0 l0.length) := ⟨by rw [← HE.out, cutn, if_pos h0]⟩
    clear HE h0
    go_wp2
    go_roundg m
    case measure => omega
    case rel => exact ⟨m, by go_num, rfl, by omega, HE2, rfl⟩
   ·have h0b : (rd l0 m == 0) = false := beq_eq_false_iff_ne.mpr h0
    have HL : Aside0 (l0.take (m + 1) = r) := ⟨by rw [← HE0.out, cutL, ← HE.out, cutn, if_neg h0]⟩
    clear HE h0
    have HRT := Aside0.mk (Kd.C_take (m := m + 1) HR.out hn)
    have HN : Aside0 ((l0.take (m + 1)).length = m + 1) := ⟨by rw [List.length_take]; omega⟩
    go_wp2_with (first | ((with_reducible refine gate_builtin (b := .append) (xs := #[.const (.slice none 0 0), .tmp 20]) rfl ?_); at_builtin; refine Kd.R_append_row (Value.int .u32) 0 (h1 := fun _ => rfl) (w0 := wr) wr.heap.size rfl (.const (.slice none 0 0)) (.tmp 20) 34 99 (.int .u32 0) 4 rfl Try.underlying34 info99 rfl (by omega) (.slice none 0 0) ([] : List Int) (l0.take (m + 1)) _ (m + 1) _ (fun _ => True) rfl rfl (fun _ _ => trivial) (Kd.R_nil _ _ _ _ _) ?aR (Below.refl _ _) (Nat.le_refl _) ?aL ?_; (case aR => have h_ := HRT.out; rw [HN.out] at h_; exact h_); (case aL => simp; omega); intro v1 w1 ho hb _ _; have HO := Aside0.mk ho; have HB := Aside0.mk hb; clear ho hb))
    go_ret
    exact ⟨_, rfl, by rw [← HL.out]; exact HO.out, HB.out⟩
def oracle_Of.l0 : Nat → List Int → List (S68) → Int → Int → Option (List Int × Int)
 | 0, _, _, _, _ => none
 | k + 1, x4, x10, x11, x12 => if x12 < x11 then (if 0 ≤ x12 then (if x12 < (x10.length : Int) then (if ((rd_T68 x10 x12).f0) < 2 then (some (([] : List Int), 2)) else (if ((rd_T68 x10 x12).f1) < 0 then (some (([] : List Int), 2)) else (if ((rd_T68 x10 x12).f1) ≥ ((rd_T68 x10 x12).f0) then (some (([] : List Int), 2)) else (if x4.length < 17592186044416 then (oracle_Of.l0 k (x4 ++ [(rd_T68 x10 x12).f1]) x10 x11 (wrap64 (x12 + 1))) else (none))))) else (none)) else (none)) else (some (x4, 0))
def oracle_Of.f (k : Nat) (l0 : List (S68)) : Option (List Int × Int) := if l0.length ≤ 8796093022208 then oracle_Of.l0 k ([] : List Int) l0 (l0.length : Int) 0 else none
set_option maxHeartbeats 8000000 in
set_option maxRecDepth 100000 in
theorem oracle_Of.calls (k : Nat) (A0 : Option Addr) (c0 : Nat) (l0 : List (S68)) (r1 : List Int) (r2 : Int) (w : World) (hr0 : Kd.C k68 w A0 l0.length l0) (hc0 : l0.length ≤ c0) (h : oracle_Of.f k l0 = some (r1, r2)) :
  Calls Try.prog 55 #[.slice A0 l0.length c0] w fun e w' => ∃ v0_ : Value, e = .returned (.tuple #[v0_, .int .i64 r2]) ∧ Kd.R (Kd.int .i64) 3 w' w.heap.size (fun _ => True) v0_ r1 ∧ Below w.heap.size w w' := by
 have hu68 := Try.underlying68
 have HR0 := Aside0.mk hr0
 have HC0 := Aside0.mk hc0
 clear hr0 hc0
 have HB := Aside0.mk (Below.refl w.heap.size w)
 have hbig : l0.length ≤ 8796093022208 := by
  refine Decidable.byContradiction fun hn => ?_
  rw [oracle_Of.f, if_neg hn] at h
  exact absurd h (by simp)
 rw [oracle_Of.f, if_pos hbig] at h
 have BIG := Aside0.mk hbig
 clear hbig
 have H : (oracle_Of.l0 k ([] : List Int) l0 (l0.length : Int) 0) = some (r1, r2) := h
 clear h
 have H' := Aside0.mk H
 clear H
 obtain ⟨i0, hi, hz0, hz1, hz2⟩ := info_parts info3
 go_enter Try.func55, Try.ntmps55
 go_wp2_with (at_make; refine wpList_make_own _ rfl _ _ 84 rfl w.heap.size 3 i0 (.int .i64 0) 1 Try.underlying84 hi hz0 hz1 .i64 .i64 _ l0.length rfl rfl (by omega) (by rw [hz2]; have := BIG.out; omega) (by unfold maxLen; have := BIG.out; omega) (Nat.le_refl _) ?_; intro w1 ho1 hg1; have HO := Aside0.mk (R_make0 (w := w) (w1 := w1) ho1); have HB1 := Aside0.mk (pw_below_grown HB.out none (Nat.le_refl _) hg1 (fun k hk => by cases hk)); clear HB; have HB := HB1; clear HB1 ho1 hg1)
 go_loopg [4, 12] k (fun kq v4 v12 w' => ∃ (x4_1 : List Int) (x12_1 : Int), v12 = .int .i64 x12_1 ∧ Aside0 (oracle_Of.l0 kq x4_1 l0 (l0.length : Int) x12_1 = some (r1, r2)) ∧ Aside0 (kq ≤ k) ∧ Aside0 (Kd.R (Kd.int .i64) 3 w' w.heap.size (fun _ => True) v4 x4_1) ∧ Aside0 (Below w.heap.size w w'))
 case atStart => exact ⟨(([] : List Int)), (0), (by first | rfl | (simp; done) | (simp [*]; done)), H', ⟨Nat.le_refl _⟩, ⟨ra HO.out⟩, ⟨bl HB⟩⟩
 case round =>
  clear H'
  obtain ⟨x4_1, x12_1, rfl, HA, HK1, HO_4, HB⟩ := hrel
  cases gk with
  | zero => exact absurd HA.out (by simp [oracle_Of.l0])
  | succ k1 =>
   have H := HA.out
   clear HA
   simp only [oracle_Of.l0] at H
   by_cases c2 : x12_1 < (l0.length : Int)
   ·rw [if_pos c2] at H
    have c2b0 : decide (x12_1 < (l0.length : Int)) = true := decide_eq_true c2
    clear c2
    by_cases c3 : 0 ≤ x12_1
    ·rw [if_pos c3] at H
     have c3b0 : decide (0 ≤ x12_1) = true := decide_eq_true c3
     clear c3
     by_cases c4 : x12_1 < (l0.length : Int)
     ·rw [if_pos c4] at H
      have c4b0 : decide (x12_1 < (l0.length : Int)) = true := decide_eq_true c4
      clear c4
      by_cases c5 : ((rd_T68 l0 x12_1).f0) < 2
      ·rw [if_pos c5] at H
       have c5b0 : decide (((rd_T68 l0 x12_1).f0) < 2) = true := decide_eq_true c5
       clear c5
       simp only [Option.some.injEq, Prod.mk.injEq] at H
       obtain ⟨rfl, rfl⟩ := H
       have p101 : 0 ≤ (x12_1 : Int) := of_decide_eq_true (by first | (with_reducible assumption) | assumption)
       have q101 : x12_1 < (l0.length : Int) := of_decide_eq_true (by first | (with_reducible assumption) | assumption)
       obtain ⟨ad101, e101, hx101_0, hx101_1⟩ := at_T68 HR0.out x12_1 p101 q101
       cases e101
       replace hx101_0 := (HB.out.cell (World.block_lt_of_cell? w _ hx101_0)).trans hx101_0
       replace hx101_1 := (HB.out.cell (World.block_lt_of_cell? w _ hx101_1)).trans hx101_1
       replace p101 := eq_true p101
       replace q101 := eq_true q101
       go_wp2_with (first | ((with_reducible refine gate_dst (N := 6) rfl ?_); refine box_event ?hg (N := 6) ?hd (cs := #[.int .i64 0, .int .i64 0]) (t := 68) ?hr ?_; (case hd => rfl); (case hg => rfl); (case hr => first | (go_simp; done) | (go_simp; rfl)); intro gb102 hg w6 hbox hb; have n_ := mk5 (Kd.R_below (ra HO_4.out) hb) (below_step (bl HB) hb) (hbox) ((by rw [hg]; exact (below_size (bl HB)) : w.heap.size ≤ gb102)) ((by rw [hg]; exact (below_size (bl HB)) : w.heap.size ≤ gb102)); clear HO_4 HB; obtain ⟨HO_4, HB, BK102, GW102, GE102⟩ := n_; clear hb hbox hg; obtain ⟨hcz7_0, hcz7_1, hfz7_0, hfz7_1⟩ := blk2 BK102.out))
       go_ret2
       exact ⟨_, by first | rfl | simp [*], by first | exact Kd.R_nil _ _ _ _ _ | exact Kd.V_nil _ _ _ _ _, bl1 HB GE102⟩
      ·rw [if_neg c5] at H
       have c5b0 : decide (((rd_T68 l0 x12_1).f0) < 2) = false := decide_eq_false c5
       clear c5
       by_cases c8 : ((rd_T68 l0 x12_1).f1) < 0
       ·rw [if_pos c8] at H
        have c8b0 : decide (((rd_T68 l0 x12_1).f1) < 0) = true := decide_eq_true c8
        clear c8
        simp only [Option.some.injEq, Prod.mk.injEq] at H
        obtain ⟨rfl, rfl⟩ := H
        have p101 : 0 ≤ (x12_1 : Int) := of_decide_eq_true (by first | (with_reducible assumption) | assumption)
        have q101 : x12_1 < (l0.length : Int) := of_decide_eq_true (by first | (with_reducible assumption) | assumption)
        obtain ⟨ad101, e101, hx101_0, hx101_1⟩ := at_T68 HR0.out x12_1 p101 q101
        cases e101
        replace hx101_0 := (HB.out.cell (World.block_lt_of_cell? w _ hx101_0)).trans hx101_0
        replace hx101_1 := (HB.out.cell (World.block_lt_of_cell? w _ hx101_1)).trans hx101_1
        replace p101 := eq_true p101
        replace q101 := eq_true q101
        go_wp2_with (first | ((with_reducible refine gate_dst (N := 6) rfl ?_); refine box_event ?hg (N := 6) ?hd (cs := #[.int .i64 0, .int .i64 0]) (t := 68) ?hr ?_; (case hd => rfl); (case hg => rfl); (case hr => first | (go_simp; done) | (go_simp; rfl)); intro gb102 hg w9 hbox hb; have n_ := mk5 (Kd.R_below (ra HO_4.out) hb) (below_step (bl HB) hb) (hbox) ((by rw [hg]; exact (below_size (bl HB)) : w.heap.size ≤ gb102)) ((by rw [hg]; exact (below_size (bl HB)) : w.heap.size ≤ gb102)); clear HO_4 HB; obtain ⟨HO_4, HB, BK102, GW102, GE102⟩ := n_; clear hb hbox hg; obtain ⟨hcz10_0, hcz10_1, hfz10_0, hfz10_1⟩ := blk2 BK102.out))
        go_ret2
        exact ⟨_, by first | rfl | simp [*], by first | exact Kd.R_nil _ _ _ _ _ | exact Kd.V_nil _ _ _ _ _, bl1 HB GE102⟩
       ·rw [if_neg c8] at H
        have c8b0 : decide (((rd_T68 l0 x12_1).f1) < 0) = false := decide_eq_false c8
        clear c8
        by_cases c11 : ((rd_T68 l0 x12_1).f1) ≥ ((rd_T68 l0 x12_1).f0)
        ·rw [if_pos c11] at H
         have c11b0 : decide (((rd_T68 l0 x12_1).f0) ≤ ((rd_T68 l0 x12_1).f1)) = true := decide_eq_true c11
         clear c11
         simp only [Option.some.injEq, Prod.mk.injEq] at H
         obtain ⟨rfl, rfl⟩ := H
         have p101 : 0 ≤ (x12_1 : Int) := of_decide_eq_true (by first | (with_reducible assumption) | assumption)
         have q101 : x12_1 < (l0.length : Int) := of_decide_eq_true (by first | (with_reducible assumption) | assumption)
         obtain ⟨ad101, e101, hx101_0, hx101_1⟩ := at_T68 HR0.out x12_1 p101 q101
         cases e101
         replace hx101_0 := (HB.out.cell (World.block_lt_of_cell? w _ hx101_0)).trans hx101_0
         replace hx101_1 := (HB.out.cell (World.block_lt_of_cell? w _ hx101_1)).trans hx101_1
         replace p101 := eq_true p101
         replace q101 := eq_true q101
         go_wp2_with (first | ((with_reducible refine gate_dst (N := 6) rfl ?_); refine box_event ?hg (N := 6) ?hd (cs := #[.int .i64 0, .int .i64 0]) (t := 68) ?hr ?_; (case hd => rfl); (case hg => rfl); (case hr => first | (go_simp; done) | (go_simp; rfl)); intro gb102 hg w12 hbox hb; have n_ := mk5 (Kd.R_below (ra HO_4.out) hb) (below_step (bl HB) hb) (hbox) ((by rw [hg]; exact (below_size (bl HB)) : w.heap.size ≤ gb102)) ((by rw [hg]; exact (below_size (bl HB)) : w.heap.size ≤ gb102)); clear HO_4 HB; obtain ⟨HO_4, HB, BK102, GW102, GE102⟩ := n_; clear hb hbox hg; obtain ⟨hcz13_0, hcz13_1, hfz13_0, hfz13_1⟩ := blk2 BK102.out))
         go_ret2
         exact ⟨_, by first | rfl | simp [*], by first | exact Kd.R_nil _ _ _ _ _ | exact Kd.V_nil _ _ _ _ _, bl1 HB GE102⟩
        ·rw [if_neg c11] at H
         have c11b0 : decide (((rd_T68 l0 x12_1).f0) ≤ ((rd_T68 l0 x12_1).f1)) = false := decide_eq_false c11
         clear c11
         by_cases c14 : x4_1.length < 17592186044416
         ·rw [if_pos c14] at H
          have LMc14 := Aside0.mk c14
          clear c14
          obtain ⟨y103, hy103⟩ : ∃ y_ : List Int, y_ = (x4_1 ++ [(rd_T68 l0 x12_1).f1]) := ⟨_, rfl⟩
          replace H : (oracle_Of.l0 k1 y103 l0 (l0.length : Int) (wrap64 (x12_1 + 1))) = some (r1, r2) := by rw [hy103]; exact H
          have Ny103 := Aside0.mk hy103
          clear hy103
          have H' := Aside0.mk H
          clear H
          have p101 : 0 ≤ (x12_1 : Int) := of_decide_eq_true (by first | (with_reducible assumption) | assumption)
          have q101 : x12_1 < (l0.length : Int) := of_decide_eq_true (by first | (with_reducible assumption) | assumption)
          obtain ⟨ad101, e101, hx101_0, hx101_1⟩ := at_T68 HR0.out x12_1 p101 q101
          cases e101
          replace hx101_0 := (HB.out.cell (World.block_lt_of_cell? w _ hx101_0)).trans hx101_0
          replace hx101_1 := (HB.out.cell (World.block_lt_of_cell? w _ hx101_1)).trans hx101_1
          replace p101 := eq_true p101
          replace q101 := eq_true q101
          go_wp2_with (first | ((with_reducible refine gate_dst (N := 6) rfl ?_); refine box_event ?hg (N := 6) ?hd (cs := #[.int .i64 0, .int .i64 0]) (t := 68) ?hr ?_; (case hd => rfl); (case hg => rfl); (case hr => first | (go_simp; done) | (go_simp; rfl)); intro gb102 hg w15 hbox hb; have n_ := mk5 (Kd.R_below (ra HO_4.out) hb) (below_step (bl HB) hb) (hbox) ((by rw [hg]; exact (below_size (bl HB)) : w.heap.size ≤ gb102)) ((by rw [hg]; exact (below_size (bl HB)) : w.heap.size ≤ gb102)); clear HO_4 HB; obtain ⟨HO_4, HB, BK102, GW102, GE102⟩ := n_; clear hb hbox hg; obtain ⟨hcz16_0, hcz16_1, hfz16_0, hfz16_1⟩ := blk2 BK102.out) | ((with_reducible refine gate_builtin (b := .append) (xs := #[.tmp 31, .tmp 34]) rfl ?_); at_builtin; refine Kd.R_append (Kd.int .i64) (w0 := w) w.heap.size rfl (.tmp 31) (.tmp 34) 84 3 (.int .i64 0) 8 rfl Try.underlying84 info3 rfl (by decide) (by omega) u4 x4_1 ((rd_T68 l0 x12_1).f1) [.int .i64 ((rd_T68 l0 x12_1).f1)] (fun _ => True) (fun _ => False) rfl (by first | (go_simp; done) | (go_simp; rfl)) ?aP (fun _ hk => hk.elim) ?aF ?aO ?aB ?aS ?aL ?_; (case aP => exact rfl); (case aB => exact (bl1 HB GE102)); (case aF => exact (fun _ _ => trivial)); (case aO => exact (ra (Kd.R_mono (Kd.R_far (p := ⟨gb102, 1, none⟩) (Kd.R_far (p := ⟨gb102, 0, none⟩) (Kd.R_types HO_4.out BK102.out (by decide)) (fun _ hk => hk.2) (.int .i64 ((rd_T68 l0 x12_1).f0))) (fun _ hk => hk.2) (.int .i64 ((rd_T68 l0 x12_1).f1))) (fun _ hk => trivial)))); (case aS => exact (below_size (bl1 HB GE102))); (case aL => have := LMc14.out; omega); intro v104 w17 ho hb hg hat; rw [← Ny103.out] at ho; have n_ := mk3 (blk_grown (g := gb102) (o := .cells #[.int .i64 ((rd_T68 l0 x12_1).f0), .int .i64 ((rd_T68 l0 x12_1).f1)] 68 (0, 0)) (by exact bp BK102.out rfl) hg (Kd.R_ne HO_4.out BK102.out (by decide))) (hb) (ho); clear BK102 HB HO_4; obtain ⟨BK102, HB, HO105⟩ := n_; clear ho hb hg hat))
          go_roundg k1
          case measure => have := HK1.out; omega
          case rel => exact ⟨(y103), (wrap64 (x12_1 + 1)), (by first | rfl | (simp; done) | (simp [*]; done)), H', ⟨by have := HK1.out; omega⟩, ⟨ra HO105.out⟩, ⟨bl1 HB GE102⟩⟩
         ·rw [if_neg c14] at H
          exact absurd H (by simp)
     ·rw [if_neg c4] at H
      exact absurd H (by simp)
    ·rw [if_neg c3] at H
     exact absurd H (by simp)
   ·rw [if_neg c2] at H
    have c2b0 : decide (x12_1 < (l0.length : Int)) = false := decide_eq_false c2
    clear c2
    simp only [Option.some.injEq, Prod.mk.injEq] at H
    obtain ⟨rfl, rfl⟩ := H
    go_wp2
    go_ret2
    exact ⟨_, by first | rfl | simp [*], ra HO_4.out, bl HB⟩
end Go.Proofs.Ytjppanekddljbaa.Pr
/- odds.good: that the Go code answers goodB. -/
namespace Go.Proofs.Ytjppanekddljbaa.Pr
open Go.RowKit Go.Proofs.Ytjppanekddljbaa.H Go.Proofs.YtjppanekddljbaaW.PrintWords Go.Proofs.YtjppanekddljbaaW.PrintLast Go.Proofs.YtjppanekddljbaaW.PrintMore
set_option maxHeartbeats 1000000 in
theorem big_calls (a b : Int) (w : World) :
    Calls Try.prog 57 #[.agg #[.int .i64 a, .int .i64 b]] w fun e w' => e = .returned (.bool (decide (4096 < a))) ∧ Below w.heap.size w w' := by
  go_enter Try.func57, Try.ntmps57
  go_wp2
  go_ret
  exact ⟨rfl, below_alloc (Below.refl _ _) _⟩
def SomeIndex (l : List S68) (w : World) (e : Ending) (w' : World) : Prop :=
  ∃ i : Int, e = .returned (.int .i64 i) ∧ (0 ≤ i ↔ ∃ j : Nat, j < l.length ∧ 4096 < (rd_T68 l j).f0) ∧ Below w.heap.size w w'
set_option maxHeartbeats 1000000 in
theorem index_calls (A : Option Addr) (c : Nat) (l : List S68) (w : World) (hr : Kd.C k68 w A l.length l) (hc : l.length ≤ c) :
    Calls Try.prog 84 #[.slice A l.length c, .func (.func 57) #[] #[]] w (SomeIndex l w) := by
  have hu68 := Try.underlying68
  have hmax : l.length ≤ 9223372036854775807 := hr.2.1
  have HR := Aside0.mk hr
  clear hr
  go_enter Try.func84, Try.ntmps84
  go_wp2
  go_loopg [8] l.length (fun kq v8 w' => ∃ i : Nat, v8 = .int .i64 i ∧ kq = l.length - i ∧ i ≤ l.length ∧ Aside0 (∀ j : Nat, j < i → ¬ 4096 < (rd_T68 l j).f0) ∧ Aside0 (Below w.heap.size w w'))
  case atStart => exact ⟨0, rfl, by omega, by omega, ⟨fun j hj => by omega⟩, ⟨Below.refl _ _⟩⟩
  case round =>
    obtain ⟨i, rfl, hk, hi, HN, HB⟩ := hrel
    by_cases hlt : i < l.length
    · obtain ⟨ad, e, hx0, hx1⟩ := at_T68 HR.out (i : Int) (by omega) (by omega)
      cases e
      replace hx0 := (HB.out.cell (World.block_lt_of_cell? w _ hx0)).trans hx0
      replace hx1 := (HB.out.cell (World.block_lt_of_cell? w _ hx1)).trans hx1
      simp only [Int.toNat_natCast] at hx0 hx1
      have HK := Aside0.mk hk
      clear hk
      by_cases hb : 4096 < (rd_T68 l i).f0
      · have hbb : decide (4096 < (rd_T68 l i).f0) = true := decide_eq_true hb
        have HBIG := Aside0.mk hb
        clear hb
        go_wp2_with (go_at_call 57; refine (big_calls _ _ _).mono ?_; rintro e w' ⟨rfl, hb1⟩; have HB1 := Aside0.mk hb1; clear hb1)
        go_ret
        exact ⟨i, rfl, ⟨fun _ => ⟨i, hlt, HBIG.out⟩, fun _ => by omega⟩, below_then HB.out HB.out.size HB1.out⟩
      · have hbb : decide (4096 < (rd_T68 l i).f0) = false := decide_eq_false hb
        have HSM := Aside0.mk hb
        clear hb
        go_wp2_with (go_at_call 57; refine (big_calls _ _ _).mono ?_; rintro e w' ⟨rfl, hb1⟩; have HB1 := Aside0.mk hb1; clear hb1)
        go_roundg (l.length - (i + 1))
        case measure => have := HK.out; omega
        case rel =>
          exact ⟨i + 1, by go_num, rfl, by omega, ⟨fun j hj => by
            by_cases e : j = i
            · subst e; exact HSM.out
            · exact HN.out j (by omega)⟩, ⟨below_then HB.out HB.out.size HB1.out⟩⟩
    · have HK := Aside0.mk hk
      clear hk
      go_wp2
      go_ret
      exact ⟨-1, rfl, ⟨fun h => by omega, fun ⟨j, hj, hb⟩ => by have := HN.out j (by omega); omega⟩, HB.out⟩
def BigB (l : List S68) : Bool := l.any fun p => decide (4096 < p.f0)
theorem rd68 (l : List S68) (j : Nat) (h : j < l.length) : rd_T68 l j = l[j] := by simp [rd_T68, List.getD, h]
theorem bigB_iff (l : List S68) : (∃ j : Nat, j < l.length ∧ 4096 < (rd_T68 l j).f0) ↔ BigB l = true := by
  unfold BigB
  rw [List.any_eq_true]
  constructor
  · rintro ⟨j, hj, h⟩
    exact ⟨l[j], List.getElem_mem hj, by rw [rd68 l j hj] at h; simpa using h⟩
  · rintro ⟨p, hp, h⟩
    obtain ⟨j, hj, rfl⟩ := List.getElem_of_mem hp
    exact ⟨j, hj, by rw [rd68 l j hj]; simpa using h⟩
set_option maxHeartbeats 1000000 in
theorem contains_calls (A : Option Addr) (c : Nat) (l : List S68) (w : World) (hr : Kd.C k68 w A l.length l) (hc : l.length ≤ c) :
    Calls Try.prog 56 #[.slice A l.length c, .func (.func 57) #[] #[]] w fun e w' => e = .returned (.bool (BigB l)) ∧ Below w.heap.size w w' := by
  have HR := Aside0.mk hr
  have HC := Aside0.mk hc
  clear hr hc
  go_enter Try.func56, Try.ntmps56
  go_wp2_with (go_at_call 84; refine (index_calls A c l _ HR.out HC.out).mono ?_; rintro e w' ⟨i, rfl, hi, hb1⟩; have HI := Aside0.mk hi; have HB1 := Aside0.mk hb1; clear hb1 hi)
  go_ret
  refine ⟨?_, HB1.out⟩
  have h := HI.out.trans (bigB_iff l)
  cases hb : BigB l
  · rw [hb] at h
    have : ¬ 0 ≤ i := fun h0 => absurd (h.1 h0) (by simp)
    simp [this]
  · rw [hb] at h
    have : 0 ≤ i := h.2 rfl
    simp [this]
def okP (p : S68) : Bool := decide (2 ≤ p.f0 ∧ 0 ≤ p.f1 ∧ p.f1 < p.f0)
theorem of_tells (l : List S68) (hl : l.length ≤ 8796093022208) (d : Nat) : ∀ (k : Nat) (i : Nat) (x : List Int), i ≤ l.length → l.length - i = d → d < k → x.length ≤ i →
    ∃ r e, oracle_Of.l0 k x l (l.length : Int) (i : Int) = some (r, e) ∧ (e = 0 ∨ e = 2) ∧ (e = 0 ↔ (l.drop i).all okP = true) := by
  induction d with
  | zero =>
    intro k i x hi hd hk hx
    obtain ⟨k, rfl⟩ : ∃ m, k = m + 1 := ⟨k - 1, by omega⟩
    refine ⟨x, 0, ?_, .inl rfl, ?_⟩
    · simp only [oracle_Of.l0]; rw [if_neg (by omega)]
    · rw [List.drop_of_length_le (by omega)]; simp
  | succ d ih =>
    intro k i x hi hd hk hx
    obtain ⟨k, rfl⟩ : ∃ m, k = m + 1 := ⟨k - 1, by omega⟩
    have hlt : i < l.length := by omega
    have hdrop : l.drop i = l[i] :: l.drop (i + 1) := by rw [List.drop_eq_getElem_cons hlt]
    have hrd := rd68 l i hlt
    simp only [oracle_Of.l0]
    rw [if_pos (by omega), if_pos (by omega), if_pos (by omega)]
    by_cases h1 : (rd_T68 l i).f0 < 2
    · rw [if_pos h1]
      refine ⟨_, _, rfl, .inr rfl, ?_⟩
      rw [hdrop, List.all_cons]
      have : okP l[i] = false := by unfold okP; rw [← hrd]; simp; omega
      simp [this]
    · rw [if_neg h1]
      by_cases h2 : (rd_T68 l i).f1 < 0
      · rw [if_pos h2]
        refine ⟨_, _, rfl, .inr rfl, ?_⟩
        rw [hdrop, List.all_cons]
        have : okP l[i] = false := by unfold okP; rw [← hrd]; simp; omega
        simp [this]
      · rw [if_neg h2]
        by_cases h3 : (rd_T68 l i).f1 ≥ (rd_T68 l i).f0
        · rw [if_pos h3]
          refine ⟨_, _, rfl, .inr rfl, ?_⟩
          rw [hdrop, List.all_cons]
          have : okP l[i] = false := by unfold okP; rw [← hrd]; simp; omega
          simp [this]
        · rw [if_neg h3, if_pos (by omega)]
          have hw : wrap64 ((i : Int) + 1) = ((i + 1 : Nat) : Int) := by unfold wrap64; omega
          rw [hw]
          obtain ⟨r, e, he, h4, h5⟩ := ih k (i + 1) (x ++ [(rd_T68 l i).f1]) (by omega) (by omega) (by omega) (by simp; omega)
          refine ⟨r, e, he, h4, ?_⟩
          rw [h5, hdrop, List.all_cons]
          have : okP l[i] = true := by unfold okP; rw [← hrd]; simp; omega
          simp [this]
theorem of_runs (l : List S68) (hl : l.length ≤ 8796093022208) : ∃ r e, oracle_Of.f (l.length + 1) l = some (r, e) ∧ (e = 0 ∨ e = 2) ∧ (e = 0 ↔ l.all okP = true) := by
  obtain ⟨r, e, h, h1, h2⟩ := of_tells l hl l.length (l.length + 1) 0 [] (by omega) (by omega) (by omega) (by simp)
  refine ⟨r, e, ?_, h1, by simpa using h2⟩
  rw [oracle_Of.f, if_pos hl]
  exact h
def goodB (l : List S68) : Bool := l.all okP && !BigB l
def odds_good.f (_k : Nat) (l0 : List S68) : Option Bool := if l0.length ≤ 8796093022208 then some (goodB l0) else none
set_option maxHeartbeats 1000000 in
theorem odds_good.calls (k : Nat) (A0 : Option Addr) (c0 : Nat) (l0 : List S68) (r : Bool) (w : World) (hr0 : Kd.C k68 w A0 l0.length l0) (hc0 : l0.length ≤ c0) (h : odds_good.f k l0 = some r) :
    Calls Try.prog 27 #[.slice A0 l0.length c0] w fun e w' => e = .returned (.bool r) ∧ Below w.heap.size w w' := by
  have hbig : l0.length ≤ 8796093022208 := by
    refine Decidable.byContradiction fun hn => ?_
    rw [odds_good.f, if_neg hn] at h
    exact absurd h (by simp)
  rw [odds_good.f, if_pos hbig] at h
  have HE := Aside0.mk (Option.some.inj h)
  have HR := Aside0.mk hr0
  have HC := Aside0.mk hc0
  clear hr0 h hc0
  obtain ⟨x, e, ho, h1, h2⟩ := of_runs l0 hbig
  have HO := Aside0.mk ho
  clear ho hbig
  rcases h1 with rfl | rfl
  · have H2 := Aside0.mk (h2.1 rfl)
    clear h2
    go_enter Try.func27, Try.ntmps27
    go_wp2_with (first
      | (go_at_call 55; refine (oracle_Of.calls _ A0 c0 l0 x 0 _ HR.out HC.out HO.out).mono ?_; rintro e w1 ⟨v0, rfl, hr1, hb1⟩; have HB1 := Aside0.mk hb1; clear hb1 hr1)
      | (go_at_call 56; refine (contains_calls A0 c0 l0 _ (Kd.C_below HR.out HB1.out) HC.out).mono ?_; rintro e w2 ⟨rfl, hb2⟩; have HB2 := Aside0.mk hb2; clear hb2))
    go_ret
    refine ⟨?_, below_then HB1.out HB1.out.size HB2.out⟩
    rw [← HE.out, goodB, H2.out]
    simp
  · have H2 := Aside0.mk (show l0.all okP = false from Bool.eq_false_iff.mpr fun hh => absurd (h2.2 hh) (by decide))
    clear h2
    go_enter Try.func27, Try.ntmps27
    go_wp2_with (first
      | (go_at_call 55; refine (oracle_Of.calls _ A0 c0 l0 x 2 _ HR.out HC.out HO.out).mono ?_; rintro e w1 ⟨v0, rfl, hr1, hb1⟩; have HB1 := Aside0.mk hb1; clear hb1 hr1))
    go_ret
    refine ⟨?_, HB1.out⟩
    rw [← HE.out, goodB, H2.out]
    simp
end Go.Proofs.Ytjppanekddljbaa.Pr
/- Limbs, plain: a number's limbs, the least first. -/
namespace Go.Proofs.Ytjppanekddljbaa.Lb
def val : List Nat → Nat
  | [] => 0
  | x :: l => x + 4294967296 * val l
def Lim (l : List Nat) : Prop := ∀ x ∈ l, x < 4294967296
def norm (n : Nat) : List Nat := if h : n = 0 then [] else n % 4294967296 :: norm (n / 4294967296)
  termination_by n
  decreasing_by omega
theorem norm_zero : norm 0 = [] := by rw [norm]; rfl
theorem norm_pos {n : Nat} (h : n ≠ 0) : norm n = n % 4294967296 :: norm (n / 4294967296) := by rw [norm, dif_neg h]
theorem lim_nil : Lim [] := fun _ h => by cases h
theorem lim_cons {x : Nat} {l : List Nat} : Lim (x :: l) ↔ x < 4294967296 ∧ Lim l :=
  ⟨fun h => ⟨h x (List.mem_cons_self ..), fun y hy => h y (List.mem_cons_of_mem _ hy)⟩, fun h y hy => by
    rcases List.mem_cons.1 hy with rfl | hy
    · exact h.1
    · exact h.2 y hy⟩
theorem lim_append {a b : List Nat} (ha : Lim a) (hb : Lim b) : Lim (a ++ b) := fun x hx => (List.mem_append.1 hx).elim (ha x) (hb x)
theorem lim_one {x : Nat} (h : x < 4294967296) : Lim [x] := fun y hy => by obtain rfl := List.mem_singleton.1 hy; exact h
theorem lim_take {l : List Nat} (h : Lim l) (n : Nat) : Lim (l.take n) := fun x hx => h x (List.mem_of_mem_take hx)
theorem lim_get {l : List Nat} (h : Lim l) (i : Nat) : l.getD i 0 < 4294967296 := by
  rcases Nat.lt_or_ge i l.length with h1 | h1
  · rw [List.getD, List.getElem?_eq_getElem h1]; exact h _ (List.getElem_mem h1)
  · rw [List.getD, List.getElem?_eq_none h1]; decide
theorem norm_spec (n : Nat) : val (norm n) = n ∧ Lim (norm n) := by
  induction n using Nat.strongRecOn with
  | ind n ih =>
    by_cases h : n = 0
    · subst h; rw [norm_zero]; exact ⟨rfl, lim_nil⟩
    · rw [norm_pos h]
      obtain ⟨h1, h2⟩ := ih (n / 4294967296) (by omega)
      refine ⟨?_, lim_cons.2 ⟨Nat.mod_lt _ (by decide), h2⟩⟩
      rw [val, h1]
      omega
theorem val_norm (n : Nat) : val (norm n) = n := (norm_spec n).1
theorem lim_norm (n : Nat) : Lim (norm n) := (norm_spec n).2
theorem val_append (a b : List Nat) : val (a ++ b) = val a + 4294967296 ^ a.length * val b := by
  induction a with
  | nil => simp [val]
  | cons x a ih =>
    rw [List.cons_append, val, val, ih, List.length_cons, Nat.pow_succ, Nat.mul_add]
    have : 4294967296 * (4294967296 ^ a.length * val b) = 4294967296 ^ a.length * 4294967296 * val b := by rw [← Nat.mul_assoc, Nat.mul_comm 4294967296]
    omega
theorem val_snoc (a : List Nat) (x : Nat) : val (a ++ [x]) = val a + 4294967296 ^ a.length * x := by rw [val_append]; simp [val]
theorem val_lt {l : List Nat} (h : Lim l) : val l < 4294967296 ^ l.length := by
  induction l with
  | nil => simp [val]
  | cons x l ih =>
    obtain ⟨h1, h2⟩ := lim_cons.1 h
    have := ih h2
    rw [val, List.length_cons, Nat.pow_succ]
    have h3 : 4294967296 * (val l + 1) ≤ 4294967296 * 4294967296 ^ l.length := Nat.mul_le_mul_left _ this
    rw [Nat.mul_comm (4294967296 ^ l.length)]
    omega
theorem val_replicate (n : Nat) : val (List.replicate n 0) = 0 := by
  induction n with
  | zero => rfl
  | succ n ih => rw [List.replicate_succ, val, ih]
theorem lim_replicate (n : Nat) : Lim (List.replicate n 0) := fun x hx => by rw [(List.mem_replicate.1 hx).2]; decide
theorem val_take_succ {l : List Nat} {i : Nat} (h : i < l.length) : val (l.take (i + 1)) = val (l.take i) + 4294967296 ^ i * l.getD i 0 := by
  rw [List.take_succ_eq_append_getElem h, val_snoc, List.length_take, Nat.min_eq_left (by omega), List.getD, List.getElem?_eq_getElem h]
  rfl
/-- limbs whose last is no nought are a number's own -/
theorem norm_val {l : List Nat} (h : Lim l) (hl : l = [] ∨ ∃ a x, l = a ++ [x] ∧ x ≠ 0) : norm (val l) = l := by
  induction l with
  | nil => exact norm_zero
  | cons x l ih =>
    obtain ⟨h1, h2⟩ := lim_cons.1 h
    have hpos : 0 < val (x :: l) := by
      rcases hl with hl | ⟨a, y, hl, hy⟩
      · cases hl
      · rw [hl, val_snoc]
        have : 0 < 4294967296 ^ a.length * y := Nat.mul_pos (Nat.pow_pos (by decide)) (by omega)
        omega
    have hl' : l = [] ∨ ∃ a x, l = a ++ [x] ∧ x ≠ 0 := by
      rcases hl with hl | ⟨a, y, hl, hy⟩
      · cases hl
      · cases a with
        | nil => left; simp at hl; exact hl.2
        | cons z a => right; exact ⟨a, y, by simpa using (List.cons.inj hl).2, hy⟩
    have hih := ih h2 hl'
    rw [norm_pos (by omega), val]
    rw [show (x + 4294967296 * val l) % 4294967296 = x from by omega, show (x + 4294967296 * val l) / 4294967296 = val l from by omega, hih]
theorem norm_last (n : Nat) : norm n = [] ∨ ∃ a x, norm n = a ++ [x] ∧ x ≠ 0 := by
  induction n using Nat.strongRecOn with
  | ind n ih =>
    by_cases h : n = 0
    · subst h; left; exact norm_zero
    · right
      rw [norm_pos h]
      rcases ih (n / 4294967296) (by omega) with h1 | ⟨a, x, h1, h2⟩
      · refine ⟨[], n % 4294967296, by rw [h1]; rfl, ?_⟩
        have : n / 4294967296 = 0 := by have := val_norm (n / 4294967296); rw [h1] at this; exact this.symm
        omega
      · exact ⟨n % 4294967296 :: a, x, by rw [h1]; rfl, h2⟩
theorem norm_length_le {n m : Nat} (h : n < 4294967296 ^ m) : (norm n).length ≤ m := by
  induction m generalizing n with
  | zero => rw [show n = 0 from by simpa using h, norm_zero]; exact Nat.le_refl _
  | succ m ih =>
    by_cases h0 : n = 0
    · subst h0; rw [norm_zero]; exact Nat.zero_le _
    · rw [norm_pos h0, List.length_cons]
      have := ih (n := n / 4294967296) (by
        rw [Nat.pow_succ] at h
        exact Nat.div_lt_of_lt_mul (by rw [Nat.mul_comm]; exact h))
      omega
theorem norm_length_ge {n : Nat} (h : n ≠ 0) : 4294967296 ^ ((norm n).length - 1) ≤ n := by
  rcases norm_last n with h1 | ⟨a, x, h1, h2⟩
  · rw [← val_norm n, h1] at h; exact absurd rfl h
  · have hv := val_norm n
    rw [h1, val_snoc] at hv
    rw [h1, List.length_append, List.length_singleton, Nat.add_sub_cancel]
    have : 4294967296 ^ a.length * 1 ≤ 4294967296 ^ a.length * x := Nat.mul_le_mul_left _ (by omega)
    omega
end Go.Proofs.Ytjppanekddljbaa.Lb
/- What the reference's limb functions answer (their printed forms), over numbers. -/
namespace Go.Proofs.Ytjppanekddljbaa.Lb
open Go.RowKit Go.Proofs.Ytjppanekddljbaa.Pr Go.Proofs.YtjppanekddljbaaW.PrintWords Go.Proofs.YtjppanekddljbaaW.PrintLast Go.Proofs.YtjppanekddljbaaW.PrintMore
def U (l : List Nat) : List Int := l.map (Nat.cast : Nat → Int)
theorem U_length (l : List Nat) : (U l).length = l.length := by simp [U]
theorem U_append (a b : List Nat) : U (a ++ b) = U a ++ U b := by simp [U]
theorem U_one (x : Nat) : U [x] = [(x : Int)] := rfl
theorem U_set (l : List Nat) (i x : Nat) : (U l).set i (x : Int) = U (l.set i x) := by simp [U, List.map_set]
theorem U_replicate (n : Nat) : U (List.replicate n 0) = List.replicate n 0 := by simp [U]
theorem rd_U (l : List Nat) (i : Nat) : rd (U l) (i : Int) = ((l.getD i 0 : Nat) : Int) := by
  simp only [rd, Int.toNat_natCast, U, List.getD]
  rcases Nat.lt_or_ge i l.length with h | h
  · rw [List.getElem?_eq_getElem (by simpa using h), List.getElem?_eq_getElem h]; simp
  · rw [List.getElem?_eq_none (by simpa using h), List.getElem?_eq_none h]; rfl
theorem w64 {x : Int} (h0 : -9223372036854775808 ≤ x) (h1 : x ≤ 9223372036854775807) : wrap64 x = x := by unfold wrap64; omega
theorem wu64 {x : Int} (h0 : 0 ≤ x) (h1 : x < 18446744073709551616) : IntKind.u64.wrap x = x := by simp [IntKind.wrap, IntKind.bits, IntKind.signed]; omega
theorem trim_copy (l : List Nat) (n : Nat) (hn : n ≤ l.length) (hl : l.length ≤ 1000000) (d : Nat) : ∀ (j : Nat) (x : List Int), j ≤ n → n - j = d → x.length = j →
    Ev (fun k => sibylref01_Trim.l1 k (U l) (n : Int) x (j : Int)) (x ++ U ((l.take n).drop j)) := by
  induction d with
  | zero =>
    intro j x hj hd hx
    refine Ev.step (f := fun _ => some x) (fun k => by simp only [sibylref01_Trim.l1]; rw [if_neg (by omega)]) ?_
    rw [List.drop_of_length_le (by simp; omega)]
    simpa [U] using Ev.now x
  | succ d ih =>
    intro j x hj hd hx
    have h1 : j < n := by omega
    refine Ev.step (f := fun k => sibylref01_Trim.l1 k (U l) (n : Int) (x ++ [((l.getD j 0 : Nat) : Int)]) ((j + 1 : Nat) : Int)) (fun k => ?_) ?_
    · simp only [sibylref01_Trim.l1]
      rw [if_pos (by omega), if_pos (by omega), if_pos (by rw [U_length]; omega), if_pos (by omega), rd_U, w64 (by omega) (by omega)]
      rfl
    · have h2 := ih (j + 1) (x ++ [((l.getD j 0 : Nat) : Int)]) (by omega) (by omega) (by simp [hx])
      have h3 : (l.take n).drop j = l.getD j 0 :: (l.take n).drop (j + 1) := by
        rw [List.drop_eq_getElem_cons (by simp; omega)]
        congr 1
        simp [List.getD, show j < l.length by omega]
      rw [h3]
      simpa [U] using h2
theorem trim_loop (l : List Nat) (hL : Lim l) (hl : l.length ≤ 1000000) : ∀ n, n ≤ l.length → Ev (fun k => sibylref01_Trim.l0 k (U l) (n : Int)) (U (norm (val (l.take n)))) := by
  intro n
  induction n with
  | zero =>
    intro _
    refine Ev.step (f := fun k => sibylref01_Trim.j1 k (U l) (0 : Int)) (fun k => by simp only [sibylref01_Trim.l0]; rw [if_neg (by omega)]; rfl) ?_
    refine Ev.step (f := fun k => sibylref01_Trim.l1 k (U l) ((0 : Nat) : Int) [] ((0 : Nat) : Int)) (fun k => by simp only [sibylref01_Trim.j1]; rfl) ?_
    have := trim_copy l 0 (by omega) hl 0 0 [] (by omega) (by omega) rfl
    simpa [val, norm_zero, U] using this
  | succ n ih =>
    intro hn
    have hval := val_take_succ (l := l) (i := n) (by omega)
    by_cases h0 : l.getD n 0 = 0
    · refine Ev.step (f := fun k => sibylref01_Trim.l0 k (U l) (n : Int)) (fun k => ?_) ?_
      · simp only [sibylref01_Trim.l0]
        have hw : wrap64 (((n + 1 : Nat) : Int) - 1) = (n : Int) := by unfold wrap64; omega
        rw [if_pos (by omega), hw, if_pos (by omega), if_pos (by rw [U_length]; omega), rd_U, if_pos (by rw [h0]; rfl)]
      · rw [hval, h0, Nat.mul_zero, Nat.add_zero]
        exact ih (by omega)
    · refine Ev.step (f := fun k => sibylref01_Trim.j1 k (U l) ((n + 1 : Nat) : Int)) (fun k => ?_) ?_
      · simp only [sibylref01_Trim.l0]
        have hw : wrap64 (((n + 1 : Nat) : Int) - 1) = (n : Int) := by unfold wrap64; omega
        rw [if_pos (by omega), hw, if_pos (by omega), if_pos (by rw [U_length]; omega), rd_U, if_neg (by omega)]
      · refine Ev.step (f := fun k => sibylref01_Trim.l1 k (U l) ((n + 1 : Nat) : Int) [] ((0 : Nat) : Int)) (fun k => by simp only [sibylref01_Trim.j1]; rfl) ?_
        have h1 := trim_copy l (n + 1) (by omega) hl (n + 1) 0 [] (by omega) (by omega) rfl
        have h2 : norm (val (l.take (n + 1))) = l.take (n + 1) := norm_val (lim_take hL _) (.inr ⟨l.take n, l.getD n 0, by rw [List.take_succ_eq_append_getElem (by omega), List.getD, List.getElem?_eq_getElem (by omega)]; rfl, h0⟩)
        rw [h2]
        simpa using h1
theorem trim_ev {l : List Nat} (hL : Lim l) (hl : l.length ≤ 1000000) : Ev (fun k => sibylref01_Trim.f k (U l)) (U (norm (val l))) := by
  have h := trim_loop l hL hl l.length (Nat.le_refl _)
  rw [List.take_length] at h
  simpa [sibylref01_Trim.f, U_length] using h
theorem val_lt_of_top {a b : List Nat} (ha : Lim a) (_hb : Lim b) {i : Nat} (h1 : i < a.length) (h2 : i < b.length) (h : a.getD i 0 < b.getD i 0) (ht : a.drop (i + 1) = b.drop (i + 1)) : val a < val b := by
  have ea : a = a.take (i + 1) ++ a.drop (i + 1) := (List.take_append_drop _ _).symm
  have eb : b = b.take (i + 1) ++ b.drop (i + 1) := (List.take_append_drop _ _).symm
  rw [ea, eb, val_append, val_append, ht]
  have l1 : (a.take (i + 1)).length = i + 1 := by simp; omega
  have l2 : (b.take (i + 1)).length = i + 1 := by simp; omega
  rw [l1, l2, val_take_succ h1, val_take_succ h2]
  have h3 := val_lt (lim_take ha i)
  rw [show (a.take i).length = i by simp; omega] at h3
  have h4 : 4294967296 ^ i * (a.getD i 0 + 1) ≤ 4294967296 ^ i * b.getD i 0 := Nat.mul_le_mul_left _ h
  rw [Nat.mul_add, Nat.mul_one] at h4
  omega
theorem cmp_loop {a b : List Nat} (ha : Lim a) (hb : Lim b) (hab : a.length = b.length) (hl : a.length ≤ 1000000) : ∀ n, n ≤ a.length → a.drop n = b.drop n →
    Ev (fun k => sibylref01_Cmp.l0 k (U a) (U b) ((n : Int) - 1)) (if val a < val b then -1 else if val a > val b then 1 else 0) := by
  intro n
  induction n with
  | zero =>
    intro _ he
    rw [List.drop_zero, List.drop_zero] at he
    subst he
    refine Ev.step (f := fun _ => some 0) (fun k => by simp only [sibylref01_Cmp.l0]; rw [if_neg (by omega)]) ?_
    rw [if_neg (by omega), if_neg (by omega)]
    exact Ev.now _
  | succ n ih =>
    intro hn he
    have hi : (((n + 1 : Nat) : Int) - 1) = (n : Int) := by omega
    rw [hi]
    have step : ∀ k, sibylref01_Cmp.l0 (k + 1) (U a) (U b) (n : Int) = if ((a.getD n 0 : Nat) : Int) < ((b.getD n 0 : Nat) : Int) then some (-1) else if ((a.getD n 0 : Nat) : Int) > ((b.getD n 0 : Nat) : Int) then some 1 else sibylref01_Cmp.l0 k (U a) (U b) ((n : Int) - 1) := fun k => by
      simp only [sibylref01_Cmp.l0]
      rw [if_pos (by omega), if_pos (by omega), if_pos (by rw [U_length]; omega), if_pos (by rw [U_length]; omega), rd_U, rd_U, w64 (by omega) (by omega)]
    by_cases h1 : a.getD n 0 < b.getD n 0
    · have := val_lt_of_top ha hb (by omega) (by omega) h1 he
      refine Ev.step (f := fun _ => some (-1)) (fun k => by rw [step, if_pos (by omega)]) ?_
      rw [if_pos this]; exact Ev.now _
    · by_cases h2 : b.getD n 0 < a.getD n 0
      · have := val_lt_of_top hb ha (by omega) (by omega) h2 he.symm
        refine Ev.step (f := fun _ => some 1) (fun k => by rw [step, if_neg (by omega), if_pos (by omega)]) ?_
        rw [if_neg (by omega), if_pos this]; exact Ev.now _
      · refine Ev.step (f := fun k => sibylref01_Cmp.l0 k (U a) (U b) ((n : Int) - 1)) (fun k => by rw [step, if_neg (by omega), if_neg (by omega)]) ?_
        refine ih (by omega) ?_
        rw [List.drop_eq_getElem_cons (show n < a.length by omega), List.drop_eq_getElem_cons (show n < b.length by omega), he]
        congr 1
        simp [List.getD, show n < a.length by omega, show n < b.length by omega] at h1 h2
        omega
theorem norm_len_cmp {x y : Nat} (h : (norm x).length < (norm y).length) : x < y := by
  have h1 := val_lt (lim_norm x)
  rw [val_norm] at h1
  have hy : y ≠ 0 := fun h0 => by rw [h0, norm_zero] at h; simp at h
  have h2 := norm_length_ge hy
  have : 4294967296 ^ (norm x).length ≤ 4294967296 ^ ((norm y).length - 1) := Nat.pow_le_pow_right (by decide) (by omega)
  omega
theorem norm_len {l : List Nat} (hL : Lim l) : (norm (val l)).length ≤ l.length := norm_length_le (val_lt hL)
theorem cmp_ev {a b : List Nat} (ha : Lim a) (hb : Lim b) (hla : a.length ≤ 1000000) (hlb : b.length ≤ 1000000) :
    Ev (fun k => sibylref01_Cmp.f k (U a) (U b)) (if val a < val b then -1 else if val a > val b then 1 else 0) := by
  unfold sibylref01_Cmp.f
  refine Ev.bind (trim_ev ha hla) (Ev.bind (trim_ev hb hlb) ?_)
  have n1 := norm_len ha
  have n2 := norm_len hb
  rw [U_length, U_length]
  by_cases h1 : (norm (val a)).length < (norm (val b)).length
  · have := norm_len_cmp h1
    refine Ev.congr (f := fun _ => some (-1)) (fun k => if_pos (by omega)) ?_
    rw [if_pos this]; exact Ev.now _
  · by_cases h2 : (norm (val b)).length < (norm (val a)).length
    · have := norm_len_cmp h2
      refine Ev.congr (f := fun _ => some 1) (fun k => by rw [if_neg (by omega), if_pos (by omega)]) ?_
      rw [if_neg (by omega), if_pos this]; exact Ev.now _
    · refine Ev.congr (f := fun k => sibylref01_Cmp.l0 k (U (norm (val a))) (U (norm (val b))) (((norm (val a)).length : Int) - 1)) (fun k => by rw [if_neg (by omega), if_neg (by omega), w64 (by omega) (by omega)]) ?_
      have := cmp_loop (lim_norm (val a)) (lim_norm (val b)) (by omega) (by omega) (norm (val a)).length (Nat.le_refl _) (by rw [List.drop_length, List.drop_of_length_le (by omega)])
      rwa [val_norm, val_norm] at this
end Go.Proofs.Ytjppanekddljbaa.Lb
/- What the reference's limb functions answer: sums, differences, shifts. -/
namespace Go.Proofs.Ytjppanekddljbaa.Lb
open Go.RowKit Go.Proofs.Ytjppanekddljbaa.Pr Go.Proofs.YtjppanekddljbaaW.PrintWords Go.Proofs.YtjppanekddljbaaW.PrintLast Go.Proofs.YtjppanekddljbaaW.PrintMore
theorem Ev.step2 {α : Type} {g f : Nat → Option α} {r : α} (h : ∀ k, g (k + 1 + 1) = f k) (hf : Ev f r) : Ev g r := by
  obtain ⟨K, hf⟩ := hf
  refine ⟨K + 2, fun n hn => ?_⟩
  obtain ⟨m, rfl⟩ : ∃ m, n = m + 1 + 1 := ⟨n - 2, by omega⟩
  rw [h]
  exact hf m (by omega)
theorem wuN {n : Nat} (h : n < 18446744073709551616) : IntKind.u64.wrap (n : Int) = (n : Int) := wu64 (by omega) (by omega)
theorem tmodB (s : Nat) : Int.tmod (s : Int) 4294967296 % 4294967296 = ((s % 4294967296 : Nat) : Int) := by
  rw [show (4294967296 : Int) = ((4294967296 : Nat) : Int) from rfl, ← Int.ofNat_tmod]
  omega
theorem tdivB (s : Nat) : Int.tdiv (s : Int) 4294967296 = ((s / 4294967296 : Nat) : Int) := rfl
theorem modB {s : Nat} (h : s < 4294967296) : (s : Int) % 4294967296 = (s : Int) := by omega
theorem val_drop (l : List Nat) (i : Nat) : val (l.drop i) = l.getD i 0 + 4294967296 * val (l.drop (i + 1)) := by
  rcases Nat.lt_or_ge i l.length with h | h
  · rw [List.drop_eq_getElem_cons h, val, List.getD, List.getElem?_eq_getElem h]; rfl
  · rw [List.drop_of_length_le h, List.drop_of_length_le (by omega), List.getD, List.getElem?_eq_none h]; rfl
theorem plus_round {a b : List Nat} (ha : Lim a) (hb : Lim b) (hla : a.length ≤ 500000) (hlb : b.length ≤ 500000) {i c : Nat} (hc : c ≤ 1) {x : List Int} (hx : x.length = i) (hi : i < a.length ∨ i < b.length) (k : Nat) :
    sibylref01_Plus.l0 (k + 1 + 1) (U a) (U b) x (c : Int) (i : Int) = sibylref01_Plus.l0 k (U a) (U b) (x ++ [(((c + a.getD i 0 + b.getD i 0) % 4294967296 : Nat) : Int)]) (((c + a.getD i 0 + b.getD i 0) / 4294967296 : Nat) : Int) ((i + 1 : Nat) : Int) := by
  have h1 := lim_get ha i
  have h2 := lim_get hb i
  have hw : wrap64 ((i : Int) + 1) = ((i + 1 : Nat) : Int) := by unfold wrap64; omega
  simp only [sibylref01_Plus.l0, sibylref01_Plus.j1, U_length]
  rcases Nat.lt_or_ge i a.length with h3 | h3
  · rw [if_pos (by omega), if_pos trivial, if_pos (by omega), if_pos (by omega), rd_U, wuN (by omega), ← Int.natCast_add, wuN (by omega)]
    rcases Nat.lt_or_ge i b.length with h4 | h4
    · rw [if_pos (by omega), if_pos (by omega), rd_U, wuN (by omega), ← Int.natCast_add, wuN (by omega), tmodB, tdivB, wuN (by omega), hw]
    · have h5 : b.getD i 0 = 0 := by rw [List.getD, List.getElem?_eq_none h4]; rfl
      rw [if_neg (by omega), if_pos (by omega), tmodB, tdivB, wuN (by omega), hw, h5]
      simp only [Nat.add_zero]
  · have h4 : i < b.length := by omega
    have h5 : a.getD i 0 = 0 := by rw [List.getD, List.getElem?_eq_none h3]; rfl
    rw [if_neg (by omega), if_pos (by simp; omega), if_neg (by omega), if_pos (by omega), if_pos (by omega), if_pos (by omega), rd_U, wuN (by omega), ← Int.natCast_add, wuN (by omega), tmodB, tdivB, wuN (by omega), hw, h5]
    simp only [Nat.add_zero]
theorem plus_loop {a b : List Nat} (ha : Lim a) (hb : Lim b) (hla : a.length ≤ 500000) (hlb : b.length ≤ 500000) (d : Nat) : ∀ (i c : Nat) (x : List Nat), max a.length b.length - i = d → i ≤ max a.length b.length → c ≤ 1 → x.length = i → Lim x →
    Ev (fun k => sibylref01_Plus.l0 k (U a) (U b) (U x) (c : Int) (i : Int)) (U (norm (val x + 4294967296 ^ i * (c + val (a.drop i) + val (b.drop i))))) := by
  induction d with
  | zero =>
    intro i c x hd hi hc hx hL
    have h1 : a.length ≤ i := by omega
    have h2 : b.length ≤ i := by omega
    refine Ev.step (f := fun k => sibylref01_Plus.j1 k (U a) (U b) (U x) (c : Int) (i : Int) false) (fun k => by
      simp only [sibylref01_Plus.l0, U_length]; rw [if_neg (by omega), show decide ((i : Int) < (b.length : Int)) = false from decide_eq_false (by omega)]) ?_
    refine Ev.step (f := fun k => (sibylref01_Trim.f k (U (x ++ [c]))).bind fun t => some t) (fun k => by
      simp only [sibylref01_Plus.j1, U_length]; rw [if_neg (by decide), if_pos (by omega), modB (by omega), U_append, U_one]) ?_
    rw [List.drop_of_length_le h1, List.drop_of_length_le h2]
    have h3 := trim_ev (l := x ++ [c]) (lim_append hL (lim_one (by omega))) (by simp; omega)
    rw [val_snoc, hx] at h3
    simpa [val] using Ev.bind h3 (Ev.now _)
  | succ d ih =>
    intro i c x hd hi hc hx hL
    have h1 := lim_get ha i
    have h2 := lim_get hb i
    obtain ⟨s, hs⟩ : ∃ s, c + a.getD i 0 + b.getD i 0 = s := ⟨_, rfl⟩
    have hr := fun k => plus_round ha hb hla hlb hc (x := U x) (by rw [U_length]; exact hx) (show i < a.length ∨ i < b.length by omega) k
    rw [hs] at hr
    refine Ev.step2 hr ?_
    have h3 := ih (i + 1) (s / 4294967296) (x ++ [s % 4294967296]) (by omega) (by omega) (by omega) (by simp [hx]) (lim_append hL (lim_one (Nat.mod_lt _ (by decide))))
    have h4 : val (x ++ [s % 4294967296]) + 4294967296 ^ (i + 1) * (s / 4294967296 + val (a.drop (i + 1)) + val (b.drop (i + 1))) = val x + 4294967296 ^ i * (c + val (a.drop i) + val (b.drop i)) := by
      rw [val_snoc, hx, val_drop a i, val_drop b i, Nat.pow_succ, Nat.mul_assoc, Nat.add_assoc, ← Nat.mul_add]
      congr 2
      omega
    rw [h4, U_append, U_one] at h3
    exact h3
theorem plus_ev {a b : List Nat} (ha : Lim a) (hb : Lim b) (hla : a.length ≤ 500000) (hlb : b.length ≤ 500000) : Ev (fun k => sibylref01_Plus.f k (U a) (U b)) (U (norm (val a + val b))) := by
  have := plus_loop ha hb hla hlb (max a.length b.length) 0 0 [] (by omega) (by omega) (by omega) rfl lim_nil
  simpa [sibylref01_Plus.f, U, val] using this
def digM (p w q : Nat) : Nat := if p < w + q then p + 4294967296 - w - q else p - w - q
def borM (p w q : Nat) : Nat := if p < w + q then 1 else 0
theorem set_app (x y : List Nat) (d : Nat) {i : Nat} (hx : x.length = i) (hy : y ≠ []) : (x ++ y).set i d = (x ++ [d]) ++ y.tail := by
  cases y with
  | nil => exact absurd rfl hy
  | cons z y => rw [List.set_append_right _ _ (by omega), hx, Nat.sub_self, List.set_cons_zero, List.append_assoc]; rfl
theorem minus_round {x b y : List Nat} (hx : Lim x) (hb : Lim b) {i w : Nat} (hw : w ≤ 1) (hi : i < y.length) (hl : y.length ≤ 500000) (hy : y.getD i 0 = x.getD i 0) (k : Nat) :
    sibylref01_Minus.l0 (k + 1) (U y) (U b) (w : Int) (i : Int) = sibylref01_Minus.l0 k (U (y.set i (digM (x.getD i 0) w (b.getD i 0)))) (U b) (borM (x.getD i 0) w (b.getD i 0) : Int) ((i + 1 : Nat) : Int) := by
  have h1 := lim_get hx i
  have h2 := lim_get hb i
  have hww : wrap64 ((i : Int) + 1) = ((i + 1 : Nat) : Int) := by unfold wrap64; omega
  simp only [sibylref01_Minus.l0, U_length]
  rw [if_pos (by omega), if_pos (by omega), rd_U, hy, hww, Int.toNat_natCast, ← U_set]
  obtain ⟨p, hp⟩ : ∃ p, x.getD i 0 = p := ⟨_, rfl⟩
  rw [hp] at h1 ⊢
  rw [w64 (x := (p : Int)) (by omega) (by omega), w64 (x := (p : Int) - w) (by omega) (by omega)]
  rcases Nat.lt_or_ge i b.length with h3 | h3
  · rw [if_pos (by omega), rd_U]
    obtain ⟨q, hq⟩ : ∃ q, b.getD i 0 = q := ⟨_, rfl⟩
    rw [hq] at h2 ⊢
    rw [w64 (x := (q : Int)) (by omega) (by omega), w64 (x := (p : Int) - w - q) (by omega) (by omega)]
    by_cases h4 : p < w + q
    · rw [if_pos (by omega), w64 (by omega) (by omega)]
      simp only [digM, borM, if_pos h4]
      congr 2
      omega
    · rw [if_neg (by omega)]
      simp only [digM, borM, if_neg h4]
      congr 2
      omega
  · rw [if_neg (by omega), show b.getD i 0 = 0 by rw [List.getD, List.getElem?_eq_none h3]; rfl]
    by_cases h4 : p < w + 0
    · rw [if_pos (by omega), w64 (by omega) (by omega)]
      simp only [digM, borM, if_pos h4]
      congr 2
      omega
    · rw [if_neg (by omega)]
      simp only [digM, borM, if_neg h4]
      congr 2
      omega
theorem minus_loop {a b : List Nat} (ha : Lim a) (hb : Lim b) (hla : a.length ≤ 500000) (d : Nat) : ∀ (i w : Nat) (x : List Nat), a.length - i = d → i ≤ a.length → w ≤ 1 → x.length = i → Lim x → w + val (b.drop i) ≤ val (a.drop i) →
    Ev (fun k => sibylref01_Minus.l0 k (U (x ++ a.drop i)) (U b) (w : Int) (i : Int)) (U (norm (val x + 4294967296 ^ i * (val (a.drop i) - w - val (b.drop i))))) := by
  induction d with
  | zero =>
    intro i w x hd hi hw hx hL hle
    have h1 : a.drop i = [] := List.drop_of_length_le (by omega)
    rw [h1, List.append_nil]
    refine Ev.step (f := fun k => (sibylref01_Trim.f k (U x)).bind fun t => some t) (fun k => by
      simp only [sibylref01_Minus.l0, U_length]; rw [if_neg (by omega)]) ?_
    have h3 := trim_ev (l := x) hL (by omega)
    simpa [val] using Ev.bind h3 (Ev.now _)
  | succ d ih =>
    intro i w x hd hi hw hx hL hle
    have hlt : i < a.length := by omega
    have hne : a.drop i ≠ [] := fun h => by have := congrArg List.length h; simp at this; omega
    have hgd : (x ++ a.drop i).getD i 0 = a.getD i 0 := by
      rw [List.getD, List.getElem?_append_right (by omega), hx, Nat.sub_self, List.getElem?_drop, Nat.add_zero]; rfl
    have hr := fun k => minus_round (y := x ++ a.drop i) ha hb hw (i := i) (by simp; omega) (by simp; omega) hgd k
    refine Ev.step hr ?_
    have h1 := lim_get ha i
    have h2 := lim_get hb i
    have e1 := val_drop a i
    have e2 := val_drop b i
    obtain ⟨p, hp⟩ : ∃ p, a.getD i 0 = p := ⟨_, rfl⟩
    obtain ⟨q, hq⟩ : ∃ q, b.getD i 0 = q := ⟨_, rfl⟩
    rw [hp] at h1 e1 ⊢
    rw [hq] at h2 e2 ⊢
    rw [set_app x (a.drop i) _ hx hne, List.tail_drop]
    have hdig : digM p w q < 4294967296 := by unfold digM; split <;> omega
    have hkey : p + 4294967296 * borM p w q = digM p w q + w + q := by unfold digM borM; split <;> omega
    have hb1 : borM p w q ≤ 1 := by unfold borM; split <;> omega
    have h3 := ih (i + 1) (borM p w q) (x ++ [digM p w q]) (by omega) (by omega) hb1 (by simp [hx]) (lim_append hL (lim_one hdig)) (by omega)
    have h4 : val (x ++ [digM p w q]) + 4294967296 ^ (i + 1) * (val (a.drop (i + 1)) - borM p w q - val (b.drop (i + 1))) = val x + 4294967296 ^ i * (val (a.drop i) - w - val (b.drop i)) := by
      rw [val_snoc, hx, Nat.pow_succ, Nat.mul_assoc, Nat.add_assoc, ← Nat.mul_add]
      congr 2
      omega
    rw [h4] at h3
    exact h3
theorem minus_ev {a b : List Nat} (ha : Lim a) (hb : Lim b) (hla : a.length ≤ 500000) (hlb : b.length ≤ 500000) (hle : val b ≤ val a) : Ev (fun k => sibylref01_Minus.f k (U a) (U b)) (U (norm (val a - val b))) := by
  unfold sibylref01_Minus.f
  refine Ev.bind (trim_ev ha (by omega)) (Ev.bind (trim_ev hb (by omega)) ?_)
  have n1 := norm_len ha
  have n2 := norm_len hb
  have := minus_loop (lim_norm (val a)) (lim_norm (val b)) (by omega) (norm (val a)).length 0 0 [] (by omega) (by omega) (by omega) rfl lim_nil (by simpa [val_norm] using hle)
  simpa [val_norm, val] using this
theorem pow_lt32 {s : Nat} (h : s < 32) : 2 ^ s ≤ 2147483648 := by
  have : 2 ^ s ≤ 2 ^ 31 := Nat.pow_le_pow_right (by decide) (by omega)
  simpa using this
theorem shl_tmod (n : Nat) : Int.tmod (n : Int) 32 = ((n % 32 : Nat) : Int) := (Int.ofNat_tmod n 32).symm
theorem shl_tdiv (n : Nat) : Int.tdiv (n : Int) 32 = ((n / 32 : Nat) : Int) := rfl
theorem shl_round {a : List Nat} (ha : Lim a) (hla : a.length ≤ 400000) {n i c : Nat} (hc : c < 4294967296) {x : List Int} (hx : x.length ≤ 400000 + i) (hi : i < a.length) (k : Nat) :
    sibylref01_Shl.l0 (k + 1) (U a) (n : Int) x (c : Int) (i : Int) = sibylref01_Shl.l0 k (U a) (n : Int) (x ++ [(((a.getD i 0 * 2 ^ (n % 32) + c) % 4294967296 : Nat) : Int)]) (((a.getD i 0 * 2 ^ (n % 32) + c) / 4294967296 : Nat) : Int) ((i + 1 : Nat) : Int) := by
  have h1 := lim_get ha i
  have hw : wrap64 ((i : Int) + 1) = ((i + 1 : Nat) : Int) := by unfold wrap64; omega
  have hm : n % 32 < 32 := Nat.mod_lt _ (by decide)
  have hp := pow_lt32 hm
  have hmul : a.getD i 0 * 2 ^ (n % 32) ≤ 4294967295 * 2147483648 := Nat.mul_le_mul (by omega) hp
  simp only [sibylref01_Shl.l0, U_length]
  have hs : shl .u64 ((a.getD i 0 : Nat) : Int) ((n % 32 : Nat) : Int) = ((a.getD i 0 * 2 ^ (n % 32) : Nat) : Int) := by
    have e : ((a.getD i 0 : Nat) : Int) * 2 ^ (n % 32) = ((a.getD i 0 * 2 ^ (n % 32) : Nat) : Int) := by
      rw [Int.natCast_mul, Int.natCast_pow]; rfl
    unfold shl
    rw [Int.toNat_natCast, Nat.min_eq_left (by simp [IntKind.bits]; omega), e, wuN (by omega)]
  rw [if_pos (by omega), if_pos (by omega), shl_tmod, wuN (by omega), if_pos (by omega), if_pos (by omega), rd_U, wuN (by omega), hs, ← Int.natCast_add, wuN (by omega), tmodB, tdivB, wuN (by omega), hw]
theorem shl_loop {a : List Nat} (ha : Lim a) (hla : a.length ≤ 400000) (n : Nat) (d : Nat) : ∀ (i c : Nat) (x : List Nat), a.length - i = d → i ≤ a.length → c < 4294967296 → x.length ≤ 400000 + i → Lim x →
    Ev (fun k => sibylref01_Shl.l0 k (U a) (n : Int) (U x) (c : Int) (i : Int)) (U (norm (val x + 4294967296 ^ x.length * (c + val (a.drop i) * 2 ^ (n % 32))))) := by
  induction d with
  | zero =>
    intro i c x hd hi hc hx hL
    refine Ev.step (f := fun k => (sibylref01_Trim.f k (U (x ++ [c]))).bind fun t => some t) (fun k => by
      simp only [sibylref01_Shl.l0, U_length]; rw [if_neg (by omega), if_pos (by omega), modB (by omega), U_append, U_one]) ?_
    rw [List.drop_of_length_le (by omega)]
    have h3 := trim_ev (l := x ++ [c]) (lim_append hL (lim_one hc)) (by simp; omega)
    rw [val_snoc] at h3
    simpa [val] using Ev.bind h3 (Ev.now _)
  | succ d ih =>
    intro i c x hd hi hc hx hL
    have hr := fun k => shl_round ha hla (n := n) hc (x := U x) (by rw [U_length]; exact hx) (show i < a.length by omega) k
    refine Ev.step hr ?_
    have h1 := lim_get ha i
    have hp := pow_lt32 (Nat.mod_lt n (show 0 < 32 by decide))
    have hmul : a.getD i 0 * 2 ^ (n % 32) ≤ 4294967295 * 2147483648 := Nat.mul_le_mul (by omega) hp
    obtain ⟨s, hs⟩ : ∃ s, a.getD i 0 * 2 ^ (n % 32) + c = s := ⟨_, rfl⟩
    rw [hs]
    have h3 := ih (i + 1) (s / 4294967296) (x ++ [s % 4294967296]) (by omega) (by omega) (by omega) (by simp; omega) (lim_append hL (lim_one (Nat.mod_lt _ (by decide))))
    have h4 : val (x ++ [s % 4294967296]) + 4294967296 ^ (x ++ [s % 4294967296]).length * (s / 4294967296 + val (a.drop (i + 1)) * 2 ^ (n % 32)) = val x + 4294967296 ^ x.length * (c + val (a.drop i) * 2 ^ (n % 32)) := by
      rw [val_snoc, List.length_append, List.length_singleton, val_drop a i, Nat.pow_succ, Nat.mul_assoc, Nat.add_assoc, ← Nat.mul_add, Nat.add_mul, Nat.mul_assoc 4294967296]
      congr 2
      omega
    rw [h4, U_append, U_one] at h3
    exact h3
theorem pow32 (n : Nat) : (4294967296 : Nat) ^ n = 2 ^ (32 * n) := by rw [Nat.pow_mul]
theorem shl_ev {a : List Nat} (ha : Lim a) (hla : a.length ≤ 400000) {n : Nat} (hn : n ≤ 1000000) : Ev (fun k => sibylref01_Shl.f k (U a) (n : Int)) (U (norm (val a * 2 ^ n))) := by
  have h := shl_loop ha hla n a.length 0 0 (List.replicate (n / 32) 0) (by omega) (by omega) (by omega) (by simp; omega) (lim_replicate _)
  refine Ev.congr (f := fun k => sibylref01_Shl.l0 k (U a) (n : Int) (U (List.replicate (n / 32) 0)) ((0 : Nat) : Int) ((0 : Nat) : Int)) (fun k => ?_) ?_
  · unfold sibylref01_Shl.f
    rw [shl_tdiv, w64 (by omega) (by omega), if_pos (by omega), if_pos (by rw [Int.toNat_natCast]; omega), Int.toNat_natCast, U_replicate]
    rfl
  · have e : val (List.replicate (n / 32) 0) + 4294967296 ^ (List.replicate (n / 32) 0).length * (0 + val (a.drop 0) * 2 ^ (n % 32)) = val a * 2 ^ n := by
      rw [val_replicate, List.length_replicate, List.drop_zero, Nat.zero_add, Nat.zero_add, pow32, Nat.mul_left_comm, ← Nat.pow_add]
      congr 2
      omega
    rw [e] at h
    exact h
theorem shr_digit {p q v s : Nat} (hs : s < 32) (hp : p < 4294967296) : (p + 4294967296 * (q + 4294967296 * v)) / 2 ^ s = (p + q * 4294967296) / 2 ^ s % 4294967296 + 4294967296 * ((q + 4294967296 * v) / 2 ^ s) := by
  obtain ⟨m, hm⟩ : ∃ m, 4294967296 = 2 ^ s * m := ⟨2 ^ (32 - s), by rw [← Nat.pow_add, show s + (32 - s) = 32 by omega]⟩
  have hpos : 0 < 2 ^ s := Nat.two_pow_pos s
  have e1 : (p + 4294967296 * (q + 4294967296 * v)) / 2 ^ s / 4294967296 = (q + 4294967296 * v) / 2 ^ s := by
    rw [Nat.div_div_eq_div_mul, Nat.mul_comm (2 ^ s), ← Nat.div_div_eq_div_mul]
    congr 1
    omega
  have e2 : (p + 4294967296 * (q + 4294967296 * v)) / 2 ^ s = (p + q * 4294967296) / 2 ^ s + 4294967296 * (m * v) := by
    have : p + 4294967296 * (q + 4294967296 * v) = (p + q * 4294967296) + 2 ^ s * (4294967296 * (m * v)) := by
      rw [Nat.mul_left_comm (2 ^ s), ← Nat.mul_assoc (2 ^ s), ← hm]
      omega
    rw [this, Nat.add_mul_div_left _ _ hpos]
  have e3 : (p + 4294967296 * (q + 4294967296 * v)) / 2 ^ s % 4294967296 = (p + q * 4294967296) / 2 ^ s % 4294967296 := by rw [e2, Nat.add_mul_mod_self_left]
  have := Nat.div_add_mod ((p + 4294967296 * (q + 4294967296 * v)) / 2 ^ s) 4294967296
  rw [e1, e3] at this
  omega
theorem shr_round {a : List Nat} (ha : Lim a) (hla : a.length ≤ 400000) {n i : Nat} {x : List Int} (hx : x.length ≤ i) (hi : i < a.length) (k : Nat) :
    sibylref01_Shr.l0 (k + 1) (U a) (n : Int) x (i : Int) = sibylref01_Shr.l0 k (U a) (n : Int) (x ++ [((((a.getD i 0 + a.getD (i + 1) 0 * 4294967296) / 2 ^ (n % 32)) % 4294967296 : Nat) : Int)]) ((i + 1 : Nat) : Int) := by
  have h1 := lim_get ha i
  have h2 := lim_get ha (i + 1)
  have hw : wrap64 ((i : Int) + 1) = ((i + 1 : Nat) : Int) := by unfold wrap64; omega
  have hm : n % 32 < 32 := Nat.mod_lt _ (by decide)
  have hs : ∀ y : Nat, shr .u64 ((y : Nat) : Int) ((n % 32 : Nat) : Int) = ((y / 2 ^ (n % 32) : Nat) : Int) := fun y => by
    have e : ((2 : Int) ^ (n % 32)) = ((2 ^ (n % 32) : Nat) : Int) := by rw [Int.natCast_pow]; rfl
    unfold shr
    rw [Int.toNat_natCast, Nat.min_eq_left (by simp [IntKind.bits]; omega), e]
    exact (Int.natCast_ediv y _).symm
  simp only [sibylref01_Shr.l0, U_length]
  rw [if_pos (by omega), if_pos (by omega), hw]
  rcases Nat.lt_or_ge (i + 1) a.length with h3 | h3
  · rw [if_pos (by omega), if_pos (by omega), shl_tmod, wuN (by omega), if_pos (by omega), if_pos (by omega), rd_U, wuN (by omega), rd_U, wuN (n := a.getD (i + 1) 0) (by omega),
      show ((a.getD (i + 1) 0 : Nat) : Int) * 4294967296 = ((a.getD (i + 1) 0 * 4294967296 : Nat) : Int) from by omega, wuN (by omega), ← Int.natCast_add, wuN (by omega), hs, tmodB]
  · have h5 : a.getD (i + 1) 0 = 0 := by rw [List.getD, List.getElem?_eq_none h3]; rfl
    rw [if_neg (by omega), shl_tmod, wuN (by omega), if_pos (by omega), if_pos (by omega), rd_U, wuN (by omega), hs, tmodB, h5]
    simp only [Nat.zero_mul, Nat.add_zero]
theorem shr_loop {a : List Nat} (ha : Lim a) (hla : a.length ≤ 400000) (n : Nat) (d : Nat) : ∀ (i : Nat) (x : List Nat), a.length - i = d → x.length ≤ i → x.length ≤ a.length → Lim x →
    Ev (fun k => sibylref01_Shr.l0 k (U a) (n : Int) (U x) (i : Int)) (U (norm (val x + 4294967296 ^ x.length * (val (a.drop i) / 2 ^ (n % 32))))) := by
  induction d with
  | zero =>
    intro i x hd hx hx2 hL
    refine Ev.step (f := fun k => (sibylref01_Trim.f k (U x)).bind fun t => some t) (fun k => by
      simp only [sibylref01_Shr.l0, U_length]; rw [if_neg (by omega)]) ?_
    rw [List.drop_of_length_le (by omega)]
    have h3 := trim_ev (l := x) hL (by omega)
    simpa [val] using Ev.bind h3 (Ev.now _)
  | succ d ih =>
    intro i x hd hx hx2 hL
    have hr := fun k => shr_round ha hla (n := n) (x := U x) (by rw [U_length]; exact hx) (show i < a.length by omega) k
    refine Ev.step hr ?_
    have h1 := lim_get ha i
    obtain ⟨s, hs⟩ : ∃ s, (a.getD i 0 + a.getD (i + 1) 0 * 4294967296) / 2 ^ (n % 32) % 4294967296 = s := ⟨_, rfl⟩
    have hslt : s < 4294967296 := by rw [← hs]; exact Nat.mod_lt _ (by decide)
    rw [hs]
    have h3 := ih (i + 1) (x ++ [s]) (by omega) (by simp; omega) (by simp; omega) (lim_append hL (lim_one hslt))
    have h4 : val (x ++ [s]) + 4294967296 ^ (x ++ [s]).length * (val (a.drop (i + 1)) / 2 ^ (n % 32)) = val x + 4294967296 ^ x.length * (val (a.drop i) / 2 ^ (n % 32)) := by
      rw [val_snoc, List.length_append, List.length_singleton, Nat.pow_succ, Nat.mul_assoc, Nat.add_assoc, ← Nat.mul_add]
      congr 2
      rw [val_drop a i, val_drop a (i + 1), shr_digit (Nat.mod_lt _ (by decide)) h1, hs]
    rw [h4, U_append, U_one] at h3
    exact h3
theorem val_drop_div {l : List Nat} (hL : Lim l) (i : Nat) : val (l.drop i) = val l / 4294967296 ^ i := by
  induction i with
  | zero => simp
  | succ i ih =>
    have h := lim_get hL i
    rw [Nat.pow_succ, ← Nat.div_div_eq_div_mul, ← ih, val_drop l i]
    omega
theorem shr_ev {a : List Nat} (ha : Lim a) (hla : a.length ≤ 400000) {n : Nat} (hn : n ≤ 1000000) : Ev (fun k => sibylref01_Shr.f k (U a) (n : Int)) (U (norm (val a / 2 ^ n))) := by
  have h := shr_loop ha hla n (a.length - n / 32) (n / 32) [] rfl (by simp) (by simp) lim_nil
  refine Ev.congr (f := fun k => sibylref01_Shr.l0 k (U a) (n : Int) (U []) ((n / 32 : Nat) : Int)) (fun k => ?_) ?_
  · unfold sibylref01_Shr.f
    rw [shl_tdiv, w64 (by omega) (by omega)]
    rfl
  · have e : val ([] : List Nat) + 4294967296 ^ ([] : List Nat).length * (val (a.drop (n / 32)) / 2 ^ (n % 32)) = val a / 2 ^ n := by
      rw [val_drop_div ha]
      simp only [val, List.length_nil, Nat.pow_zero, Nat.one_mul, Nat.zero_add]
      rw [pow32, Nat.div_div_eq_div_mul, ← Nat.pow_add]
      congr 2
      omega
    rw [e] at h
    exact h
end Go.Proofs.Ytjppanekddljbaa.Lb
/- What the reference answers of a log: Good and good. -/
namespace Go.Proofs.Ytjppanekddljbaa.Lb
open Go.RowKit Go.Proofs.Ytjppanekddljbaa.Pr Go.Proofs.YtjppanekddljbaaW.PrintWords Go.Proofs.YtjppanekddljbaaW.PrintLast Go.Proofs.YtjppanekddljbaaW.PrintMore
open Go.Proofs.Ytjppanekddljbaa.H
theorem drop68 {l : List S68} {i : Nat} (h : i < l.length) : l.drop i = l[i] :: l.drop (i + 1) := by
  rw [List.drop_eq_getElem_cons h]
theorem good9_loop {l : List S68} (hlen : l.length ≤ 8796093022208) (d : Nat) : ∀ i, i ≤ l.length → l.length - i = d →
    Ev (fun k => sibylref09_Good.l0 k l (i : Int)) ((l.drop i).all okP) := by
  induction d with
  | zero =>
    intro i hi hd
    rw [List.drop_eq_nil_of_le (by omega)]
    refine Ev.step (f := fun _ => some true) (fun k => ?_) (Ev.now _)
    simp only [sibylref09_Good.l0]
    rw [if_neg (by omega)]
  | succ d ih =>
    intro i hi hd
    have hlt : i < l.length := by omega
    have hw : wrap64 ((i : Int) + 1) = ((i + 1 : Nat) : Int) := by unfold wrap64; omega
    rw [drop68 hlt, List.all_cons]
    by_cases h : okP l[i] = true
    · rw [h, Bool.true_and]
      refine Ev.step (f := fun k => sibylref09_Good.l0 k l ((i + 1 : Nat) : Int)) (fun k => ?_) (ih (i + 1) (by omega) (by omega))
      simp only [sibylref09_Good.l0, rd68 l i hlt, hw]
      unfold okP at h
      simp only [decide_eq_true_eq] at h
      rw [if_pos (by omega), if_pos (by omega), if_neg (by omega), if_neg (by omega), if_neg (by omega)]
    · have hf : okP l[i] = false := by simpa using h
      rw [hf, Bool.false_and]
      refine Ev.step (f := fun _ => some false) (fun k => ?_) (Ev.now _)
      simp only [sibylref09_Good.l0, rd68 l i hlt, hw]
      rw [if_pos (by omega), if_pos (by omega)]
      by_cases h1 : l[i].f0 < 2
      · rw [if_pos h1]
      · rw [if_neg h1]
        by_cases h2 : l[i].f1 < 0
        · rw [if_pos h2]
        · rw [if_neg h2]
          by_cases h3 : l[i].f1 ≥ l[i].f0
          · rw [if_pos h3]
          · exfalso
            apply h
            unfold okP
            simp only [decide_eq_true_eq]
            omega
theorem good9_ev {l : List S68} (hlen : l.length ≤ 8796093022208) : Ev (fun k => sibylref09_Good.f k l) (l.all okP) := by
  have := good9_loop hlen l.length 0 (by omega) (by omega)
  exact this
theorem good21_loop {l : List S68} (hlen : l.length ≤ 8796093022208) (d : Nat) : ∀ i, i ≤ l.length → l.length - i = d →
    Ev (fun k => sibylref21_good.l0 k l (i : Int)) (l.all okP && !(BigB (l.drop i))) := by
  induction d with
  | zero =>
    intro i hi hd
    rw [List.drop_eq_nil_of_le (by omega)]
    refine Ev.step (f := fun k => (sibylref09_Good.f k l).bind fun t => some t) (fun k => ?_) ?_
    · simp only [sibylref21_good.l0]
      rw [if_neg (by omega)]
    · refine Ev.bind (good9_ev hlen) ?_
      have : (l.all okP && !(BigB ([] : List S68))) = l.all okP := by simp [BigB]
      rw [this]
      exact Ev.now _
  | succ d ih =>
    intro i hi hd
    have hlt : i < l.length := by omega
    have hw : wrap64 ((i : Int) + 1) = ((i + 1 : Nat) : Int) := by unfold wrap64; omega
    by_cases h : l[i].f0 > 4096
    · have hb : BigB (l.drop i) = true := by rw [drop68 hlt, BigB, List.any_cons, show decide (4096 < l[i].f0) = true from decide_eq_true h, Bool.true_or]
      rw [hb]
      simp only [Bool.not_true, Bool.and_false]
      refine Ev.step (f := fun _ => some false) (fun k => ?_) (Ev.now _)
      simp only [sibylref21_good.l0, rd68 l i hlt, hw]
      rw [if_pos (by omega), if_pos (by omega), if_pos h]
    · have hb : BigB (l.drop i) = BigB (l.drop (i + 1)) := by rw [drop68 hlt, BigB, List.any_cons, show decide (4096 < l[i].f0) = false from decide_eq_false h, Bool.false_or]; rfl
      rw [hb]
      refine Ev.step (f := fun k => sibylref21_good.l0 k l ((i + 1 : Nat) : Int)) (fun k => ?_) (ih (i + 1) (by omega) (by omega))
      simp only [sibylref21_good.l0, rd68 l i hlt, hw]
      rw [if_pos (by omega), if_pos (by omega), if_neg h]
theorem good21_ev {l : List S68} (hlen : l.length ≤ 8796093022208) : Ev (fun k => sibylref21_good.f k l) (goodB l) := by
  have := good21_loop hlen l.length 0 (by omega) (by omega)
  exact this
end Go.Proofs.Ytjppanekddljbaa.Lb
/- nats.QuoRem, the branches that are used here. -/
namespace Go.Proofs.Ytjppanekddljbaa.Pr
open Go.RowKit Go.Proofs.Ytjppanekddljbaa.H Go.Proofs.YtjppanekddljbaaW.PrintWords Go.Proofs.YtjppanekddljbaaW.PrintLast Go.Proofs.YtjppanekddljbaaW.PrintMore
def nats_QuoRem.f (k : Nat) (l0 : List Int) (l1 : List Int) : Option (List Int × List Int) :=
  (nats_Cmp.f k (cutL l0) (cutL l1)).bind fun c => if c < 0 then ((nats_Trim.f k (cutL l0)).bind fun t => some (([] : List Int), t))
    else if (cutL l1).length = 1 then ((nats_word.f k (cutL l0) (rd (cutL l1) 0)).bind fun b => (nats_cut.f k [b.2]).bind fun t => some (b.1, t)) else none
theorem R_any {v : Value} {w w' : World} {xs : List Int} (h : Kd.R (Kd.int .u32) 99 w' w.heap.size (fun _ => True) v xs) (u : Value) (hne : ∀ k, v.ownBlock = some k → u.ownBlock ≠ some k) :
    Kd.R (Kd.int .u32) 99 w' w.heap.size (fun k_ => some k_ ≠ u.ownBlock) v xs :=
  Kd.R_mono (Kd.R_tight rfl h) (fun k hk he => hne k hk.symm he.symm)
theorem below_undrewN {w w' : World} {n : Nat} (h : Below (w.drewN n).heap.size (w.drewN n) w') : Below w.heap.size w w' :=
  below_then (pw_below_drewN (Below.refl _ _) n) (Nat.le_refl _) h
set_option maxHeartbeats 2000000 in
theorem nats_QuoRem.calls (k : Nat) (A0 : Option Addr) (c0 : Nat) (l0 : List Int) (A1 : Option Addr) (c1 : Nat) (l1 : List Int) (r1 : List Int) (r2 : List Int) (w : World) (hr0 : Kd.C (Kd.int .u32) w A0 l0.length l0) (hc0 : l0.length ≤ c0) (hr1 : Kd.C (Kd.int .u32) w A1 l1.length l1) (hc1 : l1.length ≤ c1) (h : nats_QuoRem.f k l0 l1 = some (r1, r2)) :
    Calls Try.prog 91 #[.slice A0 l0.length c0, .slice A1 l1.length c1] w fun e w' => ∃ v0_ v1_ : Value, e = .returned (.tuple #[v0_, v1_]) ∧ Kd.R (Kd.int .u32) 99 w' w.heap.size (fun k_ => some k_ ≠ (v1_ : Value).ownBlock) v0_ r1 ∧ Kd.R (Kd.int .u32) 99 w' w.heap.size (fun k_ => some k_ ≠ (v0_ : Value).ownBlock) v1_ r2 ∧ Below w.heap.size w w' := by
  have HQ0 := Aside0.mk hr0
  have HQC0 := Aside0.mk hc0
  have HQ1 := Aside0.mk hr1
  have HQC1 := Aside0.mk hc1
  have HR0 := Aside0.mk (C_cutL hr0)
  have HR1 := Aside0.mk (C_cutL hr1)
  have HC0 := Aside0.mk (Nat.le_trans (cutL_le l0) hc0)
  have HC1 := Aside0.mk (Nat.le_trans (cutL_le l1) hc1)
  clear hr0 hr1 hc0 hc1
  unfold nats_QuoRem.f at h
  obtain ⟨q0, hq0⟩ : ∃ q : List Int, cutL l0 = q := ⟨_, rfl⟩
  obtain ⟨q1, hq1⟩ : ∃ q : List Int, cutL l1 = q := ⟨_, rfl⟩
  rw [hq0, hq1] at h
  rw [hq0] at HR0 HC0
  rw [hq1] at HR1 HC1
  have N0 := Aside0.mk hq0
  have N1 := Aside0.mk hq1
  clear hq0 hq1
  obtain ⟨c, hc, h⟩ := Option.bind_eq_some_iff.mp h
  have AC := Aside0.mk hc
  clear hc
  by_cases hlt : c < 0
  · rw [if_pos hlt] at h
    obtain ⟨t, ht, h⟩ := Option.bind_eq_some_iff.mp h
    have AT := Aside0.mk ht
    clear ht
    simp only [Option.some.injEq, Prod.mk.injEq] at h
    obtain ⟨rfl, rfl⟩ := h
    have hltb : decide (c < 0) = true := decide_eq_true hlt
    clear hlt
    go_enter Try.func91, Try.ntmps91
    go_wp2_with (first
      | ((with_reducible refine gate_callee (f := 92) rfl ?_); refine goesL_ (some 14) rfl rfl Try.func92 (by kernel_rfl) rfl #[.slice A0 l0.length c0] rfl (by (try simp only [List.map_toArray, List.map_cons, List.map_nil]); first | done | rfl) ?_; (with_reducible refine (cut_reads A0 c0 l0 _ ?hq0 HQC0.out).mono ?_); (case hq0 => exact HQ0.out); rintro e w' ⟨rfl, ⟨nd, rfl⟩⟩; refine ⟨_, rfl, ?_⟩; rw [N0.out])
      | ((with_reducible refine gate_callee (f := 92) rfl ?_); refine goesL_ (some 16) rfl rfl Try.func92 (by kernel_rfl) rfl #[.slice A1 l1.length c1] rfl (by (try simp only [List.map_toArray, List.map_cons, List.map_nil]); first | done | rfl) ?_; (with_reducible refine (cut_reads A1 c1 l1 _ ?hq1 HQC1.out).mono ?_); (case hq1 => exact HQ1.out); rintro e w' ⟨rfl, ⟨nd, rfl⟩⟩; refine ⟨_, rfl, ?_⟩; rw [N1.out])
      | (go_at_call 97; refine (nats_Cmp.calls k A0 c0 q0 A1 c1 q1 c _ ?a1 HC0.out ?a2 HC1.out AC.out).mono ?_; (case a1 => exact HR0.out); (case a2 => exact HR1.out); rintro e w' ⟨rfl, ⟨nd, rfl⟩⟩)
      | (go_at_call 64; refine (nats_Trim.calls k A0 c0 q0 t _ ?a3 HC0.out AT.out).mono ?_; (case a3 => exact HR0.out); rintro e w' ⟨v0, rfl, ho, hb⟩; have HO := Aside0.mk ho; have HB := Aside0.mk hb; clear ho hb))
    go_ret2
    exact ⟨_, _, rfl, Kd.R_nil _ _ _ _ _, R_any HO.out _ (fun k _ => by simp [Value.ownBlock]), below_undrewN HB.out⟩
  · rw [if_neg hlt] at h
    by_cases hone : q1.length = 1
    · rw [if_pos hone] at h
      obtain ⟨⟨qq, rr⟩, hw, h⟩ := Option.bind_eq_some_iff.mp h
      obtain ⟨t, ht, h⟩ := Option.bind_eq_some_iff.mp h
      have AW := Aside0.mk hw
      have AT := Aside0.mk ht
      clear hw ht
      simp only [Option.some.injEq, Prod.mk.injEq] at h
      obtain ⟨rfl, rfl⟩ := h
      have hltb : decide (c < 0) = false := decide_eq_false hlt
      have honeb : ((q1.length : Int) == 1) = true := beq_iff_eq.mpr (by omega)
      obtain ⟨ad, e, hx⟩ := Kd.at_int HR1.out 0 (by omega) (by omega)
      cases e
      have hge : (0 : Int) < (q1.length : Int) := by omega
      have hx2 : w.cell? ad = some (.int .u32 (rd q1 0)) := by simpa [go_sem] using hx
      clear hlt hone hx
      go_enter Try.func91, Try.ntmps91
      go_wp2_with (first
        | ((with_reducible refine gate_callee (f := 92) rfl ?_); refine goesL_ (some 14) rfl rfl Try.func92 (by kernel_rfl) rfl #[.slice A0 l0.length c0] rfl (by (try simp only [List.map_toArray, List.map_cons, List.map_nil]); first | done | rfl) ?_; (with_reducible refine (cut_reads A0 c0 l0 _ ?hq0 HQC0.out).mono ?_); (case hq0 => exact HQ0.out); rintro e w' ⟨rfl, ⟨nd, rfl⟩⟩; refine ⟨_, rfl, ?_⟩; rw [N0.out])
        | ((with_reducible refine gate_callee (f := 92) rfl ?_); refine goesL_ (some 16) rfl rfl Try.func92 (by kernel_rfl) rfl #[.slice (some ad) l1.length c1] rfl (by (try simp only [List.map_toArray, List.map_cons, List.map_nil]); first | done | rfl) ?_; (with_reducible refine (cut_reads (some ad) c1 l1 _ ?hq1 HQC1.out).mono ?_); (case hq1 => exact HQ1.out); rintro e w' ⟨rfl, ⟨nd, rfl⟩⟩; refine ⟨_, rfl, ?_⟩; rw [N1.out])
        | (go_at_call 97; refine (nats_Cmp.calls k A0 c0 q0 (some ad) c1 q1 c _ ?a1 HC0.out ?a2 HC1.out AC.out).mono ?_; (case a1 => exact HR0.out); (case a2 => exact HR1.out); rintro e w' ⟨rfl, ⟨nd, rfl⟩⟩)
        | (go_at_call 98; refine (nats_word.calls k A0 c0 q0 (rd q1 0) qq rr _ ?a3 HC0.out AW.out).mono ?_; (case a3 => exact HR0.out); rintro e w1 ⟨v0, rfl, ho, hb⟩; have HO := Aside0.mk ho; have HB := Aside0.mk (below_undrewN (w := w) hb); clear ho hb)
        | ((with_reducible refine gate_dst (N := 36) rfl ?_); refine Kd.R_lit (Kd.int .u32) _ 99 ?hg (N := 36) ?hd (xs := ([rr] : List Int)) (inner := [.int .u32 rr]) (ok := fun _ => True) (okp := fun _ => True) ?hr ?hp (fun _ hk => hk) trivial (Below.refl _ _) (Nat.le_refl _) (by simp) ?_; (case hd => rfl); (case hg => rfl); (case hr => first | (go_simp; done) | (go_simp; rfl)); (case hp => exact (Reps.one (show Kd.M (Kd.int .u32) _ _ _ rr [.int .u32 rr] from rfl) (Reps.none _ _))); intro v2 w2 ho2 hb2 hg_ hnew_; clear hg_ hnew_; have HO2 := Aside0.mk ho2; have HB2 := Aside0.mk hb2; clear ho2 hb2)
        | ((with_reducible refine gate_callee (f := 92) rfl ?_); refine goesL_ (some 37) rfl rfl Try.func92 (by kernel_rfl) rfl #[v2] rfl (by (try simp only [List.map_toArray, List.map_cons, List.map_nil]); first | done | rfl) ?_; (with_reducible refine (nats_cut.calls k (fun _ => True) v2 [rr] t w1 _ ?s1 ?s2 AT.out).mono ?_); (case s1 => exact HB2.out); (case s2 => exact HO2.out); rintro e w3 ⟨v3, rfl, ho3, hb3, hk3⟩; refine ⟨_, rfl, ?_⟩; have HO3 := Aside0.mk ho3; have HB3 := Aside0.mk hb3; clear ho3 hb3 hk3))
      go_ret2
      have hlt1 := own_lt (Kd.own_of_R HO.out)
      have hge3 := own_base (Kd.own_of_R HO3.out)
      refine ⟨_, _, rfl, ?_, ?_, ?_⟩
      · refine R_any (w := w) (Kd.R_below HO.out HB3.out) _ (fun k hk he => ?_)
        have a := hlt1 k hk
        have b := hge3 k he
        omega
      · refine R_any (w := w) (Kd.R_mono (Kd.R_lower HO3.out HB.out.size) (fun _ _ => trivial)) _ (fun k hk he => ?_)
        have a := hlt1 k he
        have b := hge3 k hk
        omega
      · exact below_then HB.out HB.out.size HB3.out
    · rw [if_neg hone] at h
      exact absurd h (by simp)
end Go.Proofs.Ytjppanekddljbaa.Pr
