/- OddsTotals returns true whatever the input, and the input reads as it did. Conditions: none but those of the given row (part 3) -/
import Derived.Test.YtjppanekddljbaaT2
set_option linter.unusedVariables false
set_option linter.unusedSimpArgs false
/- What the kit's print wrote for these functions, taken together by wip/pick.py: each function's Lean function and that the Go code comes to it. -/
namespace Go.Proofs.Ytjppanekddljbaa.Pr
open Go.RowKit Go.Proofs.YtjppanekddljbaaW.PrintWords Go.Proofs.YtjppanekddljbaaW.PrintLast Go.Proofs.YtjppanekddljbaaW.PrintMore
open Go.Proofs.Ytjppanekddljbaa.H
attribute [local go_sem] max2_int min2_int max_two min_two max_three min_three max_four min_four
def nats_Gcd.l0 : Nat → List Int → List Int → Option (List Int)
 | 0, _, _ => none
 | k + 1, x0, x1 => if (x1.length : Int) > 0 then ((nats_QuoRem.f k x0 x1).bind fun bt241 => (nats_Gcd.l0 k x1 bt241.2)) else ((nats_Trim.f k x0).bind fun t247 => (some t247))
def nats_Gcd.f (k : Nat) (l0 : List Int) (l1 : List Int) : Option (List Int) := (nats_Trim.f k l0).bind fun t235 => ((nats_Trim.f k l1).bind fun t238 => (nats_Gcd.l0 k t235 t238))
set_option maxHeartbeats 8000000 in
set_option maxRecDepth 100000 in
theorem nats_Gcd.calls (k : Nat) (A0 : Option Addr) (c0 : Nat) (l0 : List Int) (A1 : Option Addr) (c1 : Nat) (l1 : List Int) (r : List Int) (w : World) (hr0 : Kd.C (Kd.int .u32) w A0 l0.length l0) (hc0 : l0.length ≤ c0) (hr1 : Kd.C (Kd.int .u32) w A1 l1.length l1) (hc1 : l1.length ≤ c1) (h : nats_Gcd.f k l0 l1 = some r) :
  Calls Try.prog 89 #[.slice A0 l0.length c0, .slice A1 l1.length c1] w fun e w' => ∃ v0_ : Value, e = .returned (v0_) ∧ Kd.R (Kd.int .u32) 99 w' w.heap.size (fun _ => True) v0_ r ∧ Below w.heap.size w w' := by
 have HR0 := Aside0.mk hr0
 have HC0 := Aside0.mk hc0
 clear hr0 hc0
 have HR1 := Aside0.mk hr1
 have HC1 := Aside0.mk hc1
 clear hr1 hc1
 have HB := Aside0.mk (Below.refl w.heap.size w)
 have H : ((nats_Trim.f k l0).bind fun t235 => ((nats_Trim.f k l1).bind fun t238 => (nats_Gcd.l0 k t235 t238))) = some r := h
 clear h
 obtain ⟨t235, A3, H⟩ := bindA H
 obtain ⟨t238, A4, H⟩ := bindA H
 have H' := Aside0.mk H
 clear H
 go_enter Try.func89, Try.ntmps89
 go_wp2_with (first | ((with_reducible refine gate_callee (f := 64) rfl ?_); refine goesM (some 8) rfl rfl Try.func64 (by kernel_rfl) rfl #[.slice A0 l0.length c0] rfl (by rfl) ?_; (with_reducible refine (nats_Trim.calls k _ _ l0 t235 _ ?side1 ?side2 A3.out).mono ?_); (case side1 => exact ca HR0.out); (case side2 => exact HC0.out); rintro e w5 ⟨v236, rfl, ho0, hb⟩; refine ⟨_, rfl, ?_⟩; have n_ := mk2 (Kd.R_lower ho0 (below_size (bl HB))) (below_step (bl HB) hb); clear HB; obtain ⟨HO237, HB⟩ := n_; (try clear hb); (try clear hb2); (try clear hk); (try clear hi); (try clear ho0)) | ((with_reducible refine gate_callee (f := 64) rfl ?_); refine goesM (some 10) rfl rfl Try.func64 (by kernel_rfl) rfl #[.slice A1 l1.length c1] rfl (by rfl) ?_; (with_reducible refine (nats_Trim.calls k _ _ l1 t238 _ ?side1 ?side2 A4.out).mono ?_); (case side1 => exact ca (Kd.C_below HR1.out HB.out)); (case side2 => exact HC1.out); rintro e w6 ⟨v239, rfl, ho0, hb⟩; refine ⟨_, rfl, ?_⟩; have n_ := mk3 (Kd.R_elder' (ra HO237.out) (Kd.R_base ho0) hb) (Kd.R_lower (Kd.R_new' ho0 (Kd.R_lt (ra HO237.out))) (below_size (bl HB))) (below_step (bl HB) hb); clear HO237 HB; obtain ⟨HO237, HO240, HB⟩ := n_; (try clear hb); (try clear hb2); (try clear hk); (try clear hi); (try clear ho0)))
 go_loopg [0, 1] k (fun kq v0 v1 w' => ∃ (x0_1 : List Int) (x1_1 : List Int), Aside0 (nats_Gcd.l0 kq x0_1 x1_1 = some r) ∧ Aside0 (kq ≤ k) ∧ Aside0 (Kd.R (Kd.int .u32) 99 w' w.heap.size (fun k_ => some k_ ≠ (v1 : Value).ownBlock) v0 x0_1) ∧ Aside0 (Kd.R (Kd.int .u32) 99 w' w.heap.size (fun k_ => some k_ ≠ (v0 : Value).ownBlock) v1 x1_1) ∧ Aside0 (Below w.heap.size w w'))
 case atStart => exact ⟨(t235), (t238), H', ⟨Nat.le_refl _⟩, ⟨ra (Kd.R_mono HO237.out (fun _ hk => hk.2))⟩, ⟨ra (Kd.R_mono HO240.out (fun _ hk => hk.2))⟩, ⟨bl HB⟩⟩
 case round =>
  clear H'
  try clear c1
  try clear p2
  try clear c6
  obtain ⟨x0_1, x1_1, HA, HK1, HO_0, HO_1, HB⟩ := hrel
  cases gk with
  | zero => exact absurd HA.out (by simp [nats_Gcd.l0])
  | succ k1 =>
   have H := HA.out
   clear HA
   simp only [nats_Gcd.l0] at H
   by_cases c7 : (x1_1.length : Int) > 0
   ·rw [if_pos c7] at H
    have c7b0 : decide (0 < (x1_1.length : Int)) = true := decide_eq_true c7
    have c7b1 : decide (0 < x1_1.length) = true := decide_eq_true (by omega)
    clear c7
    obtain ⟨⟨t241, t242⟩, A8, H⟩ := bindA H
    dsimp only at H
    have H' := Aside0.mk H
    clear H
    obtain ⟨Ao9, co9, eo9⟩ := Kd.R_slice HO_1.out
    subst eo9
    obtain ⟨Ao10, co10, eo10⟩ := Kd.R_slice HO_0.out
    subst eo10
    go_wp2_with (first | ((with_reducible refine gate_callee (f := 91) rfl ?_); refine goesM (some 17) rfl rfl Try.func91 (by kernel_rfl) rfl #[.slice Ao10 x0_1.length co10, .slice Ao9 x1_1.length co9] rfl (by rfl) ?_; (with_reducible refine (nats_QuoRem.calls k1 _ _ x0_1 _ _ x1_1 t241 t242 _ ?side1 ?side2 ?side3 ?side4 A8.out).mono ?_); (case side1 => exact ca ((Kd.R_reads' HO_0.out).2.2)); (case side2 => exact (Kd.R_reads' HO_0.out).2.1); (case side3 => exact ca ((Kd.R_reads' HO_1.out).2.2)); (case side4 => exact (Kd.R_reads' HO_1.out).2.1); rintro e w11 ⟨v243, v245, rfl, ho0, ho1, hb⟩; refine ⟨_, rfl, ?_⟩; have n_ := mk5 (Kd.R_mono (Kd.R_told (Kd.R_told (Kd.R_old (ra HO_0.out) hb) (Kd.R_base ho0)) (Kd.R_base ho1)) (fun _ h_ => h_.1)) (Kd.R_mono (Kd.R_told (Kd.R_told (Kd.R_old (ra HO_1.out) hb) (Kd.R_base ho0)) (Kd.R_base ho1)) (fun _ h_ => h_.1)) (Kd.R_lower (Kd.R_new' (Kd.R_new' ho0 (Kd.R_lt (ra HO_0.out))) (Kd.R_lt (ra HO_1.out))) (below_size (bl HB))) (Kd.R_lower (Kd.R_new' (Kd.R_new' ho1 (Kd.R_lt (ra HO_0.out))) (Kd.R_lt (ra HO_1.out))) (below_size (bl HB))) (below_step (bl HB) hb); clear HO_0 HO_1 HB; obtain ⟨HO_0, HO_1, HO244, HO246, HB⟩ := n_; (try clear hb); (try clear hb2); (try clear hk); (try clear hi); (try clear ho0); (try clear ho1)))
    go_roundg k1
    case measure => have := HK1.out; omega
    case rel => exact ⟨(x1_1), (t242), H', ⟨by have := HK1.out; omega⟩, ⟨ra (Kd.R_mono HO_1.out (fun _ hk => hk.2))⟩, ⟨ra (Kd.R_mono HO246.out (fun _ hk => hk.2))⟩, ⟨bl HB⟩⟩
   ·rw [if_neg c7] at H
    have c7b0 : decide (0 < (x1_1.length : Int)) = false := decide_eq_false c7
    have c7b1 : decide (0 < x1_1.length) = false := decide_eq_false (by omega)
    clear c7
    obtain ⟨t247, A12, H⟩ := bindA H
    obtain rfl := Option.some.inj H
    obtain ⟨Ao13, co13, eo13⟩ := Kd.R_slice HO_1.out
    subst eo13
    obtain ⟨Ao14, co14, eo14⟩ := Kd.R_slice HO_0.out
    subst eo14
    go_wp2_with (first | ((with_reducible refine gate_callee (f := 64) rfl ?_); refine goesM (some 23) rfl rfl Try.func64 (by kernel_rfl) rfl #[.slice Ao14 x0_1.length co14] rfl (by rfl) ?_; (with_reducible refine (nats_Trim.calls k1 _ _ x0_1 t247 _ ?side1 ?side2 A12.out).mono ?_); (case side1 => exact ca ((Kd.R_reads' HO_0.out).2.2)); (case side2 => exact (Kd.R_reads' HO_0.out).2.1); rintro e w15 ⟨v248, rfl, ho0, hb⟩; refine ⟨_, rfl, ?_⟩; have n_ := mk4 (Kd.R_elder' (ra HO_0.out) (Kd.R_base ho0) hb) (Kd.R_elder' (ra HO_1.out) (Kd.R_base ho0) hb) (Kd.R_lower (Kd.R_new' (Kd.R_new' ho0 (Kd.R_lt (ra HO_0.out))) (Kd.R_lt (ra HO_1.out))) (below_size (bl HB))) (below_step (bl HB) hb); clear HO_0 HO_1 HB; obtain ⟨HO_0, HO_1, HO249, HB⟩ := n_; (try clear hb); (try clear hb2); (try clear hk); (try clear hi); (try clear ho0)))
    go_ret
    exact ⟨_, by first | rfl | simp [*], ra (Kd.R_mono HO249.out (fun _ hk => trivial)), bl HB⟩
def ratio_Of.f (k : Nat) (a0 : Int) : Option (Bool × List Int × List Int) := if a0 < 0 then ((nats_Trim.f k (([(IntKind.u64.wrap (-(IntKind.u64.wrap (a0)))) % 4294967296, ((IntKind.u64.wrap (-(IntKind.u64.wrap (a0)))) / 4294967296) % 4294967296] : List Int))).bind fun t128 => (some (decide (a0 < 0), t128, (([1] : List Int))))) else ((nats_Trim.f k (([(IntKind.u64.wrap (a0)) % 4294967296, ((IntKind.u64.wrap (a0)) / 4294967296) % 4294967296] : List Int))).bind fun t137 => (some (decide (a0 < 0), t137, (([1] : List Int)))))
set_option maxHeartbeats 8000000 in
set_option maxRecDepth 100000 in
theorem ratio_Of.calls (k : Nat) (a0 : Int) (r1 : Bool) (r2 : List Int) (r3 : List Int) (w : World) (h : ratio_Of.f k a0 = some (r1, r2, r3)) :
  Calls Try.prog 32 #[.int .i64 a0] w fun e w' => ∃ v1_ v2_ : Value, e = .returned (.agg #[.bool r1, v1_, v2_]) ∧ Kd.R (Kd.int .u32) 99 w' w.heap.size (fun k_ => some k_ ≠ (v2_ : Value).ownBlock) v1_ r2 ∧ Kd.R (Kd.int .u32) 99 w' w.heap.size (fun k_ => some k_ ≠ (v1_ : Value).ownBlock) v2_ r3 ∧ Below w.heap.size w w' := by
 have hu36 := Try.underlying36
 have HB := Aside0.mk (Below.refl w.heap.size w)
 have H : (if a0 < 0 then ((nats_Trim.f k (([(IntKind.u64.wrap (-(IntKind.u64.wrap (a0)))) % 4294967296, ((IntKind.u64.wrap (-(IntKind.u64.wrap (a0)))) / 4294967296) % 4294967296] : List Int))).bind fun t128 => (some (decide (a0 < 0), t128, (([1] : List Int))))) else ((nats_Trim.f k (([(IntKind.u64.wrap (a0)) % 4294967296, ((IntKind.u64.wrap (a0)) / 4294967296) % 4294967296] : List Int))).bind fun t137 => (some (decide (a0 < 0), t137, (([1] : List Int)))))) = some (r1, r2, r3) := h
 clear h
 by_cases c2 : a0 < 0
 ·rw [if_pos c2] at H
  have c2b0 : decide (a0 < 0) = true := decide_eq_true c2
  clear c2
  obtain ⟨y125, hy125⟩ : ∃ y_ : List Int, y_ = (([(IntKind.u64.wrap (-(IntKind.u64.wrap (a0)))) % 4294967296, ((IntKind.u64.wrap (-(IntKind.u64.wrap (a0)))) / 4294967296) % 4294967296] : List Int)) := ⟨_, rfl⟩
  replace H : ((nats_Trim.f k y125).bind fun t128 => (some (decide (a0 < 0), t128, (([1] : List Int))))) = some (r1, r2, r3) := by rw [hy125]; exact H
  have Ny125 := Aside0.mk hy125
  clear hy125
  obtain ⟨t128, A3, H⟩ := bindA H
  obtain ⟨y131, hy131⟩ : ∃ y_ : List Int, y_ = (([1] : List Int)) := ⟨_, rfl⟩
  replace H : (some (decide (a0 < 0), t128, y131)) = some (r1, r2, r3) := by rw [hy131]; exact H
  have Ny131 := Aside0.mk hy131
  clear hy131
  simp only [Option.some.injEq, Prod.mk.injEq] at H
  obtain ⟨rfl, rfl, rfl⟩ := H
  go_enter Try.func32, Try.ntmps32
  go_wp2_with (first | ((with_reducible refine gate_dst (N := 2) rfl ?_); refine box_event ?hg (N := 2) ?hd (cs := #[.bool false, .slice none 0 0, .slice none 0 0]) (t := 36) ?hr ?_; (case hd => rfl); (case hg => rfl); (case hr => first | (go_simp; done) | (go_simp; rfl)); intro gb124 hg w4 hbox hb; have n_ := mk4 (below_step (bl HB) hb) (hbox) ((by rw [hg]; exact (below_size (bl HB)) : w.heap.size ≤ gb124)) ((by rw [hg]; exact (below_size (bl HB)) : w.heap.size ≤ gb124)); clear HB; obtain ⟨HB, BK124, GW124, GE124⟩ := n_; clear hb hbox hg) | ((with_reducible refine gate_dst (N := 17) rfl ?_); refine Kd.R_lit (Kd.int .u32) _ 99 ?hg (N := 17) ?hd (xs := ([(IntKind.u64.wrap (-(IntKind.u64.wrap (a0)))) % 4294967296, ((IntKind.u64.wrap (-(IntKind.u64.wrap (a0)))) / 4294967296) % 4294967296] : List Int)) (inner := [.int .u32 ((IntKind.u64.wrap (-(IntKind.u64.wrap (a0)))) % 4294967296), .int .u32 (((IntKind.u64.wrap (-(IntKind.u64.wrap (a0)))) / 4294967296) % 4294967296)]) (ok := fun _ => True) (okp := fun _ => True) ?hr ?hp (fun _ hk => hk) trivial (Below.refl _ _) (Nat.le_refl _) (by simp) ?_; (case hd => rfl); (case hg => rfl); (case hr => first | (go_simp; done) | (go_simp; rfl)); (case hp => exact (Reps.one (show Kd.M (Kd.int .u32) _ _ _ ((IntKind.u64.wrap (-(IntKind.u64.wrap (a0)))) % 4294967296) [.int .u32 ((IntKind.u64.wrap (-(IntKind.u64.wrap (a0)))) % 4294967296)] from rfl) (Reps.one (show Kd.M (Kd.int .u32) _ _ _ (((IntKind.u64.wrap (-(IntKind.u64.wrap (a0)))) / 4294967296) % 4294967296) [.int .u32 (((IntKind.u64.wrap (-(IntKind.u64.wrap (a0)))) / 4294967296) % 4294967296)] from rfl) (Reps.none _ _)))); intro v126 w5 ho6 hb hg_ hnew_; clear hg_ hnew_; (first | rw [← Ny125.out] at ho6 | (simp only [Int.reduceToNat] at ho6; rw [← Ny125.out] at ho6)); have n_ := mk3 (Kd.R_lower ho6 (below_size (bl1 HB GE124))) (blk_below (ba BK124.out) hb) (below_step (bl1 HB GE124) hb); clear BK124 HB; obtain ⟨HO127, BK124, HB⟩ := n_; clear hb ho6; obtain ⟨Ao7, co7, eo7⟩ := Kd.R_slice HO127.out; subst eo7) | ((with_reducible refine gate_callee (f := 64) rfl ?_); refine goesM (some 18) rfl rfl Try.func64 (by kernel_rfl) rfl #[.slice Ao7 y125.length co7] rfl (by rfl) ?_; (with_reducible refine (nats_Trim.calls k _ _ y125 t128 _ ?side1 ?side2 A3.out).mono ?_); (case side1 => exact ca ((Kd.R_reads' HO127.out).2.2)); (case side2 => exact (Kd.R_reads' HO127.out).2.1); rintro e w8 ⟨v129, rfl, ho0, hb⟩; refine ⟨_, rfl, ?_⟩; have n_ := mk4 (Kd.R_elder' (ra HO127.out) (Kd.R_base ho0) hb) (Kd.R_lower (Kd.R_new' ho0 (Kd.R_lt (ra HO127.out))) (below_size (bl1 HB GE124))) (blk_below (ba BK124.out) hb) (below_step (bl1 HB GE124) hb); clear HO127 BK124 HB; obtain ⟨HO127, HO130, BK124, HB⟩ := n_; (try clear hb); (try clear hb2); (try clear hk); (try clear hi); (try clear ho0)) | ((with_reducible refine gate_dst (N := 19) rfl ?_); refine Kd.R_lit (Kd.int .u32) _ 99 ?hg (N := 19) ?hd (xs := ([1] : List Int)) (inner := [.int .u32 1]) (ok := fun _ => True) (okp := fun _ => True) ?hr ?hp (fun _ hk => hk) trivial (Below.refl _ _) (Nat.le_refl _) (by simp) ?_; (case hd => rfl); (case hg => rfl); (case hr => first | (go_simp; done) | (go_simp; rfl)); (case hp => exact (Reps.one (show Kd.M (Kd.int .u32) _ _ _ 1 [.int .u32 1] from rfl) (Reps.none _ _))); intro v132 w9 ho10 hb hg_ hnew_; clear hg_ hnew_; (first | rw [← Ny131.out] at ho10 | (simp only [Int.reduceToNat] at ho10; rw [← Ny131.out] at ho10)); have n_ := mk5 (Kd.R_elder' (ra HO127.out) (Kd.R_base ho10) hb) (Kd.R_elder' (ra HO130.out) (Kd.R_base ho10) hb) (Kd.R_lower (Kd.R_new' (Kd.R_new' ho10 (Kd.R_lt (ra HO127.out))) (Kd.R_lt (ra HO130.out))) (below_size (bl1 HB GE124))) (blk_below (ba BK124.out) hb) (below_step (bl1 HB GE124) hb); clear HO127 HO130 BK124 HB; obtain ⟨HO127, HO130, HO133, BK124, HB⟩ := n_; clear hb ho10; obtain ⟨Ao11, co11, eo11⟩ := Kd.R_slice HO133.out; subst eo11; obtain ⟨Ao12, co12, eo12⟩ := Kd.R_slice HO130.out; subst eo12; obtain ⟨hcz13_0, hcz13_1, hcz13_2, hfz13_0, hfz13_1, hfz13_2⟩ := blk3 BK124.out))
  refine bodyPost_ret (results_cell_row rfl _ _ gb124 36 #[.bool (true), .slice Ao12 t128.length co12, .slice Ao11 y131.length co11] (0, 0) _ rfl (by exact bp BK124.out rfl) Try.underlying36 rfl (by kernel_rfl)) rfl ?_
  exact ⟨_, _, by first | rfl | (rw [c2b0]; rfl) | (rw [c2b0]) | (simp [errW_none, errW_some] <;> rfl) | (simp [*, errW_none, errW_some] <;> rfl), ra (Kd.R_mono (Kd.R_far (p := ⟨gb124, 2, none⟩) (Kd.R_far (p := ⟨gb124, 1, none⟩) (Kd.R_far (p := ⟨gb124, 0, none⟩) (Kd.R_types HO130.out BK124.out (by decide)) (fun _ hk => hk.2) (.bool (true))) (fun _ hk => hk.2) (.slice Ao12 t128.length co12)) (fun _ hk => hk.2) (.slice Ao11 y131.length co11)) (fun _ hk => hk.1.2)), ra (Kd.R_mono (Kd.R_far (p := ⟨gb124, 2, none⟩) (Kd.R_far (p := ⟨gb124, 1, none⟩) (Kd.R_far (p := ⟨gb124, 0, none⟩) (Kd.R_types HO133.out BK124.out (by decide)) (fun _ hk => hk.2) (.bool (true))) (fun _ hk => hk.2) (.slice Ao12 t128.length co12)) (fun _ hk => hk.2) (.slice Ao11 y131.length co11)) (fun _ hk => hk.1.2)), bl1 HB GE124⟩
 ·rw [if_neg c2] at H
  have c2b0 : decide (a0 < 0) = false := decide_eq_false c2
  clear c2
  obtain ⟨y134, hy134⟩ : ∃ y_ : List Int, y_ = (([(IntKind.u64.wrap (a0)) % 4294967296, ((IntKind.u64.wrap (a0)) / 4294967296) % 4294967296] : List Int)) := ⟨_, rfl⟩
  replace H : ((nats_Trim.f k y134).bind fun t137 => (some (decide (a0 < 0), t137, (([1] : List Int))))) = some (r1, r2, r3) := by rw [hy134]; exact H
  have Ny134 := Aside0.mk hy134
  clear hy134
  obtain ⟨t137, A14, H⟩ := bindA H
  obtain ⟨y140, hy140⟩ : ∃ y_ : List Int, y_ = (([1] : List Int)) := ⟨_, rfl⟩
  replace H : (some (decide (a0 < 0), t137, y140)) = some (r1, r2, r3) := by rw [hy140]; exact H
  have Ny140 := Aside0.mk hy140
  clear hy140
  simp only [Option.some.injEq, Prod.mk.injEq] at H
  obtain ⟨rfl, rfl, rfl⟩ := H
  go_enter Try.func32, Try.ntmps32
  go_wp2_with (first | ((with_reducible refine gate_dst (N := 2) rfl ?_); refine box_event ?hg (N := 2) ?hd (cs := #[.bool false, .slice none 0 0, .slice none 0 0]) (t := 36) ?hr ?_; (case hd => rfl); (case hg => rfl); (case hr => first | (go_simp; done) | (go_simp; rfl)); intro gb124 hg w15 hbox hb; have n_ := mk4 (below_step (bl HB) hb) (hbox) ((by rw [hg]; exact (below_size (bl HB)) : w.heap.size ≤ gb124)) ((by rw [hg]; exact (below_size (bl HB)) : w.heap.size ≤ gb124)); clear HB; obtain ⟨HB, BK124, GW124, GE124⟩ := n_; clear hb hbox hg) | ((with_reducible refine gate_dst (N := 17) rfl ?_); refine Kd.R_lit (Kd.int .u32) _ 99 ?hg (N := 17) ?hd (xs := ([(IntKind.u64.wrap (a0)) % 4294967296, ((IntKind.u64.wrap (a0)) / 4294967296) % 4294967296] : List Int)) (inner := [.int .u32 ((IntKind.u64.wrap (a0)) % 4294967296), .int .u32 (((IntKind.u64.wrap (a0)) / 4294967296) % 4294967296)]) (ok := fun _ => True) (okp := fun _ => True) ?hr ?hp (fun _ hk => hk) trivial (Below.refl _ _) (Nat.le_refl _) (by simp) ?_; (case hd => rfl); (case hg => rfl); (case hr => first | (go_simp; done) | (go_simp; rfl)); (case hp => exact (Reps.one (show Kd.M (Kd.int .u32) _ _ _ ((IntKind.u64.wrap (a0)) % 4294967296) [.int .u32 ((IntKind.u64.wrap (a0)) % 4294967296)] from rfl) (Reps.one (show Kd.M (Kd.int .u32) _ _ _ (((IntKind.u64.wrap (a0)) / 4294967296) % 4294967296) [.int .u32 (((IntKind.u64.wrap (a0)) / 4294967296) % 4294967296)] from rfl) (Reps.none _ _)))); intro v135 w16 ho17 hb hg_ hnew_; clear hg_ hnew_; (first | rw [← Ny134.out] at ho17 | (simp only [Int.reduceToNat] at ho17; rw [← Ny134.out] at ho17)); have n_ := mk3 (Kd.R_lower ho17 (below_size (bl1 HB GE124))) (blk_below (ba BK124.out) hb) (below_step (bl1 HB GE124) hb); clear BK124 HB; obtain ⟨HO136, BK124, HB⟩ := n_; clear hb ho17; obtain ⟨Ao18, co18, eo18⟩ := Kd.R_slice HO136.out; subst eo18) | ((with_reducible refine gate_callee (f := 64) rfl ?_); refine goesM (some 18) rfl rfl Try.func64 (by kernel_rfl) rfl #[.slice Ao18 y134.length co18] rfl (by rfl) ?_; (with_reducible refine (nats_Trim.calls k _ _ y134 t137 _ ?side1 ?side2 A14.out).mono ?_); (case side1 => exact ca ((Kd.R_reads' HO136.out).2.2)); (case side2 => exact (Kd.R_reads' HO136.out).2.1); rintro e w19 ⟨v138, rfl, ho0, hb⟩; refine ⟨_, rfl, ?_⟩; have n_ := mk4 (Kd.R_elder' (ra HO136.out) (Kd.R_base ho0) hb) (Kd.R_lower (Kd.R_new' ho0 (Kd.R_lt (ra HO136.out))) (below_size (bl1 HB GE124))) (blk_below (ba BK124.out) hb) (below_step (bl1 HB GE124) hb); clear HO136 BK124 HB; obtain ⟨HO136, HO139, BK124, HB⟩ := n_; (try clear hb); (try clear hb2); (try clear hk); (try clear hi); (try clear ho0)) | ((with_reducible refine gate_dst (N := 19) rfl ?_); refine Kd.R_lit (Kd.int .u32) _ 99 ?hg (N := 19) ?hd (xs := ([1] : List Int)) (inner := [.int .u32 1]) (ok := fun _ => True) (okp := fun _ => True) ?hr ?hp (fun _ hk => hk) trivial (Below.refl _ _) (Nat.le_refl _) (by simp) ?_; (case hd => rfl); (case hg => rfl); (case hr => first | (go_simp; done) | (go_simp; rfl)); (case hp => exact (Reps.one (show Kd.M (Kd.int .u32) _ _ _ 1 [.int .u32 1] from rfl) (Reps.none _ _))); intro v141 w20 ho21 hb hg_ hnew_; clear hg_ hnew_; (first | rw [← Ny140.out] at ho21 | (simp only [Int.reduceToNat] at ho21; rw [← Ny140.out] at ho21)); have n_ := mk5 (Kd.R_elder' (ra HO136.out) (Kd.R_base ho21) hb) (Kd.R_elder' (ra HO139.out) (Kd.R_base ho21) hb) (Kd.R_lower (Kd.R_new' (Kd.R_new' ho21 (Kd.R_lt (ra HO136.out))) (Kd.R_lt (ra HO139.out))) (below_size (bl1 HB GE124))) (blk_below (ba BK124.out) hb) (below_step (bl1 HB GE124) hb); clear HO136 HO139 BK124 HB; obtain ⟨HO136, HO139, HO142, BK124, HB⟩ := n_; clear hb ho21; obtain ⟨Ao22, co22, eo22⟩ := Kd.R_slice HO142.out; subst eo22; obtain ⟨Ao23, co23, eo23⟩ := Kd.R_slice HO139.out; subst eo23; obtain ⟨hcz24_0, hcz24_1, hcz24_2, hfz24_0, hfz24_1, hfz24_2⟩ := blk3 BK124.out))
  refine bodyPost_ret (results_cell_row rfl _ _ gb124 36 #[.bool (false), .slice Ao23 t137.length co23, .slice Ao22 y140.length co22] (0, 0) _ rfl (by exact bp BK124.out rfl) Try.underlying36 rfl (by kernel_rfl)) rfl ?_
  exact ⟨_, _, by first | rfl | (rw [c2b0]; rfl) | (rw [c2b0]) | (simp [errW_none, errW_some] <;> rfl) | (simp [*, errW_none, errW_some] <;> rfl), ra (Kd.R_mono (Kd.R_far (p := ⟨gb124, 2, none⟩) (Kd.R_far (p := ⟨gb124, 1, none⟩) (Kd.R_far (p := ⟨gb124, 0, none⟩) (Kd.R_types HO139.out BK124.out (by decide)) (fun _ hk => hk.2) (.bool (false))) (fun _ hk => hk.2) (.slice Ao23 t137.length co23)) (fun _ hk => hk.2) (.slice Ao22 y140.length co22)) (fun _ hk => hk.1.2)), ra (Kd.R_mono (Kd.R_far (p := ⟨gb124, 2, none⟩) (Kd.R_far (p := ⟨gb124, 1, none⟩) (Kd.R_far (p := ⟨gb124, 0, none⟩) (Kd.R_types HO142.out BK124.out (by decide)) (fun _ hk => hk.2) (.bool (false))) (fun _ hk => hk.2) (.slice Ao23 t137.length co23)) (fun _ hk => hk.2) (.slice Ao22 y140.length co22)) (fun _ hk => hk.1.2)), bl1 HB GE124⟩
def ratio_Form.j0 : Nat → Bool → Bool → List Int → List Int → Option (Bool)
 | 0, _, _, _, _ => none
 | k + 1, x28, x253000, x253001, x253002 => if x28 = true then (some false) else ((nats_Gcd.f k x253001 x253002).bind fun t255 => ((ratio_one.f t255).bind fun t258 => (some t258)))
def ratio_Form.f (k : Nat) (a0_0 : Bool) (l0_1 : List Int) (l0_2 : List Int) : Option (Bool) := (ratio_natural.f l0_1).bind fun t253 => (if t253 = true then ((ratio_natural.f l0_2).bind fun t254 => (if t254 = true then (if (l0_2.length : Int) = 0 then (ratio_Form.j0 k true a0_0 l0_1 l0_2) else (if a0_0 = true then (ratio_Form.j0 k ((l0_1.length : Int) == 0) a0_0 l0_1 l0_2) else (ratio_Form.j0 k false a0_0 l0_1 l0_2))) else (ratio_Form.j0 k true a0_0 l0_1 l0_2))) else (ratio_Form.j0 k true a0_0 l0_1 l0_2))
set_option maxHeartbeats 8000000 in
set_option maxRecDepth 100000 in
theorem ratio_Form.calls (k : Nat) (a0_0 : Bool) (A0_1 : Option Addr) (c0_1 : Nat) (l0_1 : List Int) (A0_2 : Option Addr) (c0_2 : Nat) (l0_2 : List Int) (r : Bool) (w : World) (hr0_1 : Kd.C (Kd.int .u32) w A0_1 l0_1.length l0_1) (hc0_1 : l0_1.length ≤ c0_1) (hr0_2 : Kd.C (Kd.int .u32) w A0_2 l0_2.length l0_2) (hc0_2 : l0_2.length ≤ c0_2) (h : ratio_Form.f k a0_0 l0_1 l0_2 = some r) :
  Calls Try.prog 88 #[.agg #[.bool a0_0, .slice A0_1 l0_1.length c0_1, .slice A0_2 l0_2.length c0_2]] w fun e w' => e = .returned (.bool r) ∧ Below w.heap.size w w' := by
 have hu36 := Try.underlying36
 have HR0_1 := Aside0.mk hr0_1
 have HC0_1 := Aside0.mk hc0_1
 clear hr0_1 hc0_1
 have HR0_2 := Aside0.mk hr0_2
 have HC0_2 := Aside0.mk hc0_2
 clear hr0_2 hc0_2
 have HB := Aside0.mk (Below.refl w.heap.size w)
 have H : ((ratio_natural.f l0_1).bind fun t253 => (if t253 = true then ((ratio_natural.f l0_2).bind fun t254 => (if t254 = true then (if (l0_2.length : Int) = 0 then (ratio_Form.j0 k true a0_0 l0_1 l0_2) else (if a0_0 = true then (ratio_Form.j0 k ((l0_1.length : Int) == 0) a0_0 l0_1 l0_2) else (ratio_Form.j0 k false a0_0 l0_1 l0_2))) else (ratio_Form.j0 k true a0_0 l0_1 l0_2))) else (ratio_Form.j0 k true a0_0 l0_1 l0_2))) = some r := h
 clear h
 have HC2 := Aside0.mk H
 clear H
 go_enter Try.func88, Try.ntmps88
 go_upto_region 1 with (first | ((with_reducible refine gate_dst (N := 1) rfl ?_); (try (refine gate_guard (by rfl) ?_; dsimp only)); refine box_event ?hg (N := 1) ?hd (cs := #[.bool a0_0, .slice A0_1 l0_1.length c0_1, .slice A0_2 l0_2.length c0_2]) (t := 36) ?hr ?_; (case hd => rfl); (case hg => rfl); (case hr => first | (go_simp; done) | (go_simp; rfl)); intro gb252 hg w3 hbox hb; have n_ := mk4 (below_step (bl HB) hb) (hbox) ((by rw [hg]; exact (below_size (bl HB)) : w.heap.size ≤ gb252)) ((by rw [hg]; exact (below_size (bl HB)) : w.heap.size ≤ gb252)); clear HB; obtain ⟨HB, BK252, GW252, GE252⟩ := n_; clear hb hbox hg))
 (try simp only [Act.put, List.setIfInBounds_toArray, List.set_cons_zero, List.set_cons_succ])
 go_cut [28] (fun v28 wc => ∃ (kq : Nat) (x28_1 : Bool), v28 = .bool x28_1 ∧ Aside0 (ratio_Form.j0 kq x28_1 a0_0 l0_1 l0_2 = some r) ∧ Aside0 (kq ≤ k) ∧ Aside0 (wc.heap[gb252]? = some (.cells #[.bool a0_0, (.slice A0_1 l0_1.length c0_1), (.slice A0_2 l0_2.length c0_2)] 36 (0, 0))) ∧ Aside0 (Below w.heap.size w wc))
 case first =>
  have H := HC2.out
  clear HC2
  obtain ⟨t253, A4, H⟩ := bindA H
  by_cases c5 : t253 = true
  ·subst c5
   have H1 : ((ratio_natural.f l0_2).bind fun t254 => (if t254 = true then (if (l0_2.length : Int) = 0 then (ratio_Form.j0 k true a0_0 l0_1 l0_2) else (if a0_0 = true then (ratio_Form.j0 k ((l0_1.length : Int) == 0) a0_0 l0_1 l0_2) else (ratio_Form.j0 k false a0_0 l0_1 l0_2))) else (ratio_Form.j0 k true a0_0 l0_1 l0_2))) = some r := by rw [if_pos rfl] at H; exact H
   clear H
   have H := H1
   clear H1
   obtain ⟨t254, A6, H⟩ := bindA H
   by_cases c7 : t254 = true
   ·subst c7
    have H1 : (if (l0_2.length : Int) = 0 then (ratio_Form.j0 k true a0_0 l0_1 l0_2) else (if a0_0 = true then (ratio_Form.j0 k ((l0_1.length : Int) == 0) a0_0 l0_1 l0_2) else (ratio_Form.j0 k false a0_0 l0_1 l0_2))) = some r := by rw [if_pos rfl] at H; exact H
    clear H
    have H := H1
    clear H1
    by_cases c8 : (l0_2.length : Int) = 0
    ·rw [if_pos c8] at H
     have c8b0 : ((l0_2.length : Int) == 0) = true := beq_iff_eq.mpr c8
     have c8b1 : ((l0_2.length : Int) != 0) = false := bne_eq_false_iff_eq.mpr c8
     clear c8
     (first | rw [c8b0] | (simp only [i64_w, i32_w]; rw [c8b0]) | skip)
     have H' := Aside0.mk H
     clear H
     have hcz9_0 : w3.cell? ⟨gb252, 0, none⟩ = some (.bool a0_0) := (blk_cell BK252.out 0).trans rfl
     have hcz9_1 : w3.cell? ⟨gb252, 1, none⟩ = some (.slice A0_1 l0_1.length c0_1) := (blk_cell BK252.out 1).trans rfl
     have hcz9_2 : w3.cell? ⟨gb252, 2, none⟩ = some (.slice A0_2 l0_2.length c0_2) := (blk_cell BK252.out 2).trans rfl
     have hfz9_0 := blk_frozen BK252.out 0
     have hfz9_1 := blk_frozen BK252.out 1
     have hfz9_2 := blk_frozen BK252.out 2
     go_wp2_with (first | ((with_reducible refine gate_callee (f := 96) rfl ?_); refine goesM (some 5) rfl rfl Try.func96 (by kernel_rfl) rfl #[.slice A0_1 l0_1.length c0_1] rfl (by rfl) ?_; (with_reducible refine (ratio_natural.calls _ _ l0_1 true _ ?side1 ?side2 A4.out).mono ?_); (case side1 => exact ca (Kd.C_below HR0_1.out HB.out)); (case side2 => exact HC0_1.out); rintro e w' ⟨rfl, ⟨nd, rfl⟩⟩; refine ⟨_, rfl, ?_⟩) | (go_at_call 96; (with_reducible refine (ratio_natural.calls _ _ l0_2 true _ ?side1 ?side2 A6.out).mono ?_); (case side1 => exact (Kd.C_below HR0_2.out (bl1 HB GE252))); (case side2 => exact HC0_2.out); rintro e w' ⟨rfl, ⟨nd, rfl⟩⟩))
     go_meet
     case rel => exact ⟨_, (true), (by first | rfl | (simp; done) | (simp [*]; done)), H', ⟨by first | omega | exact Nat.le_refl _⟩, ⟨ba BK252.out⟩, ⟨bl1 HB GE252⟩⟩
    ·rw [if_neg c8] at H
     have c8b0 : ((l0_2.length : Int) == 0) = false := beq_eq_false_iff_ne.mpr c8
     have c8b1 : ((l0_2.length : Int) != 0) = true := bne_iff_ne.mpr c8
     have c8b2 : ¬ (l0_2 = []) := fun h_ => c8 (by rw [h_]; rfl)
     (first | rw [c8b0] | (simp only [i64_w, i32_w]; rw [c8b0]) | skip)
     by_cases c10 : a0_0 = true
     ·subst c10
      have H1 : (ratio_Form.j0 k ((l0_1.length : Int) == 0) true l0_1 l0_2) = some r := by rw [if_pos rfl] at H; exact H
      clear H
      have H := H1
      clear H1
      have H' := Aside0.mk H
      clear H
      have hcz11_0 : w3.cell? ⟨gb252, 0, none⟩ = some (.bool true) := (blk_cell BK252.out 0).trans rfl
      have hcz11_1 : w3.cell? ⟨gb252, 1, none⟩ = some (.slice A0_1 l0_1.length c0_1) := (blk_cell BK252.out 1).trans rfl
      have hcz11_2 : w3.cell? ⟨gb252, 2, none⟩ = some (.slice A0_2 l0_2.length c0_2) := (blk_cell BK252.out 2).trans rfl
      have hfz11_0 := blk_frozen BK252.out 0
      have hfz11_1 := blk_frozen BK252.out 1
      have hfz11_2 := blk_frozen BK252.out 2
      go_wp2_with (first | ((with_reducible refine gate_callee (f := 96) rfl ?_); refine goesM (some 5) rfl rfl Try.func96 (by kernel_rfl) rfl #[.slice A0_1 l0_1.length c0_1] rfl (by rfl) ?_; (with_reducible refine (ratio_natural.calls _ _ l0_1 true _ ?side1 ?side2 A4.out).mono ?_); (case side1 => exact ca (Kd.C_below HR0_1.out HB.out)); (case side2 => exact HC0_1.out); rintro e w' ⟨rfl, ⟨nd, rfl⟩⟩; refine ⟨_, rfl, ?_⟩) | (go_at_call 96; (with_reducible refine (ratio_natural.calls _ _ l0_2 true _ ?side1 ?side2 A6.out).mono ?_); (case side1 => exact (Kd.C_below HR0_2.out (bl1 HB GE252))); (case side2 => exact HC0_2.out); rintro e w' ⟨rfl, ⟨nd, rfl⟩⟩))
      go_meet
      case rel => exact ⟨_, (((l0_1.length : Int) == 0)), (by first | rfl | (simp; done) | (simp [*]; done)), H', ⟨by first | omega | exact Nat.le_refl _⟩, ⟨ba BK252.out⟩, ⟨bl1 HB GE252⟩⟩
     ·replace c10 := Bool.eq_false_iff.mpr c10
      subst c10
      have H1 : (ratio_Form.j0 k false false l0_1 l0_2) = some r := by rw [if_neg (show ¬ (false = true) by decide)] at H; exact H
      clear H
      have H := H1
      clear H1
      have H' := Aside0.mk H
      clear H
      have hcz12_0 : w3.cell? ⟨gb252, 0, none⟩ = some (.bool false) := (blk_cell BK252.out 0).trans rfl
      have hcz12_1 : w3.cell? ⟨gb252, 1, none⟩ = some (.slice A0_1 l0_1.length c0_1) := (blk_cell BK252.out 1).trans rfl
      have hcz12_2 : w3.cell? ⟨gb252, 2, none⟩ = some (.slice A0_2 l0_2.length c0_2) := (blk_cell BK252.out 2).trans rfl
      have hfz12_0 := blk_frozen BK252.out 0
      have hfz12_1 := blk_frozen BK252.out 1
      have hfz12_2 := blk_frozen BK252.out 2
      go_wp2_with (first | ((with_reducible refine gate_callee (f := 96) rfl ?_); refine goesM (some 5) rfl rfl Try.func96 (by kernel_rfl) rfl #[.slice A0_1 l0_1.length c0_1] rfl (by rfl) ?_; (with_reducible refine (ratio_natural.calls _ _ l0_1 true _ ?side1 ?side2 A4.out).mono ?_); (case side1 => exact ca (Kd.C_below HR0_1.out HB.out)); (case side2 => exact HC0_1.out); rintro e w' ⟨rfl, ⟨nd, rfl⟩⟩; refine ⟨_, rfl, ?_⟩) | (go_at_call 96; (with_reducible refine (ratio_natural.calls _ _ l0_2 true _ ?side1 ?side2 A6.out).mono ?_); (case side1 => exact (Kd.C_below HR0_2.out (bl1 HB GE252))); (case side2 => exact HC0_2.out); rintro e w' ⟨rfl, ⟨nd, rfl⟩⟩))
      go_meet
      case rel => exact ⟨_, (false), (by first | rfl | (simp; done) | (simp [*]; done)), H', ⟨by first | omega | exact Nat.le_refl _⟩, ⟨ba BK252.out⟩, ⟨bl1 HB GE252⟩⟩
   ·replace c7 := Bool.eq_false_iff.mpr c7
    subst c7
    have H1 : (ratio_Form.j0 k true a0_0 l0_1 l0_2) = some r := by rw [if_neg (show ¬ (false = true) by decide)] at H; exact H
    clear H
    have H := H1
    clear H1
    have H' := Aside0.mk H
    clear H
    have hcz13_0 : w3.cell? ⟨gb252, 0, none⟩ = some (.bool a0_0) := (blk_cell BK252.out 0).trans rfl
    have hcz13_1 : w3.cell? ⟨gb252, 1, none⟩ = some (.slice A0_1 l0_1.length c0_1) := (blk_cell BK252.out 1).trans rfl
    have hcz13_2 : w3.cell? ⟨gb252, 2, none⟩ = some (.slice A0_2 l0_2.length c0_2) := (blk_cell BK252.out 2).trans rfl
    have hfz13_0 := blk_frozen BK252.out 0
    have hfz13_1 := blk_frozen BK252.out 1
    have hfz13_2 := blk_frozen BK252.out 2
    go_wp2_with (first | ((with_reducible refine gate_callee (f := 96) rfl ?_); refine goesM (some 5) rfl rfl Try.func96 (by kernel_rfl) rfl #[.slice A0_1 l0_1.length c0_1] rfl (by rfl) ?_; (with_reducible refine (ratio_natural.calls _ _ l0_1 true _ ?side1 ?side2 A4.out).mono ?_); (case side1 => exact ca (Kd.C_below HR0_1.out HB.out)); (case side2 => exact HC0_1.out); rintro e w' ⟨rfl, ⟨nd, rfl⟩⟩; refine ⟨_, rfl, ?_⟩) | (go_at_call 96; (with_reducible refine (ratio_natural.calls _ _ l0_2 false _ ?side1 ?side2 A6.out).mono ?_); (case side1 => exact (Kd.C_below HR0_2.out (bl1 HB GE252))); (case side2 => exact HC0_2.out); rintro e w' ⟨rfl, ⟨nd, rfl⟩⟩))
    go_meet
    case rel => exact ⟨_, (true), (by first | rfl | (simp; done) | (simp [*]; done)), H', ⟨by first | omega | exact Nat.le_refl _⟩, ⟨ba BK252.out⟩, ⟨bl1 HB GE252⟩⟩
  ·replace c5 := Bool.eq_false_iff.mpr c5
   subst c5
   have H1 : (ratio_Form.j0 k true a0_0 l0_1 l0_2) = some r := by rw [if_neg (show ¬ (false = true) by decide)] at H; exact H
   clear H
   have H := H1
   clear H1
   have H' := Aside0.mk H
   clear H
   have hcz14_0 : w3.cell? ⟨gb252, 0, none⟩ = some (.bool a0_0) := (blk_cell BK252.out 0).trans rfl
   have hcz14_1 : w3.cell? ⟨gb252, 1, none⟩ = some (.slice A0_1 l0_1.length c0_1) := (blk_cell BK252.out 1).trans rfl
   have hcz14_2 : w3.cell? ⟨gb252, 2, none⟩ = some (.slice A0_2 l0_2.length c0_2) := (blk_cell BK252.out 2).trans rfl
   have hfz14_0 := blk_frozen BK252.out 0
   have hfz14_1 := blk_frozen BK252.out 1
   have hfz14_2 := blk_frozen BK252.out 2
   go_wp2_with (first | ((with_reducible refine gate_callee (f := 96) rfl ?_); refine goesM (some 5) rfl rfl Try.func96 (by kernel_rfl) rfl #[.slice A0_1 l0_1.length c0_1] rfl (by rfl) ?_; (with_reducible refine (ratio_natural.calls _ _ l0_1 false _ ?side1 ?side2 A4.out).mono ?_); (case side1 => exact ca (Kd.C_below HR0_1.out HB.out)); (case side2 => exact HC0_1.out); rintro e w' ⟨rfl, ⟨nd, rfl⟩⟩; refine ⟨_, rfl, ?_⟩))
   go_meet
   case rel => exact ⟨_, (true), (by first | rfl | (simp; done) | (simp [*]; done)), H', ⟨by first | omega | exact Nat.le_refl _⟩, ⟨ba BK252.out⟩, ⟨bl1 HB GE252⟩⟩
 case rest =>
  clear HC2
  try clear c1
  try clear p2
  try clear c5
  try clear c7
  try clear c8
  try clear c8b0
  try clear c8b1
  try clear c8b2
  try clear c9
  try clear c10
  try clear hcz11_0
  try clear hcz11_1
  try clear hcz11_2
  try clear hcz12_0
  try clear hcz12_1
  try clear hcz12_2
  try clear hcz13_0
  try clear hcz13_1
  try clear hcz13_2
  try clear hcz14_0
  try clear hcz14_1
  try clear hcz14_2
  try clear hcz9_0
  try clear hcz9_1
  try clear hcz9_2
  try clear hfz11_0
  try clear hfz11_1
  try clear hfz11_2
  try clear hfz12_0
  try clear hfz12_1
  try clear hfz12_2
  try clear hfz13_0
  try clear hfz13_1
  try clear hfz13_2
  try clear hfz14_0
  try clear hfz14_1
  try clear hfz14_2
  try clear hfz9_0
  try clear hfz9_1
  try clear hfz9_2
  obtain ⟨kq, x28_1, rfl, HA, HJ1, BK252, HB⟩ := hcut
  cases kq with
  | zero => exact absurd HA.out (by simp [ratio_Form.j0])
  | succ kj1 =>
   have H := HA.out
   clear HA
   simp only [ratio_Form.j0] at H
   by_cases c15 : x28_1 = true
   ·subst c15
    have H1 : (some false) = some r := by rw [if_pos rfl] at H; exact H
    clear H
    have H := H1
    clear H1
    obtain rfl := Option.some.inj H
    go_wp2
    go_ret
    exact ⟨by first | rfl | simp [*], bl1 HB GE252⟩
   ·replace c15 := Bool.eq_false_iff.mpr c15
    subst c15
    have H1 : ((nats_Gcd.f kj1 l0_1 l0_2).bind fun t255 => ((ratio_one.f t255).bind fun t258 => (some t258))) = some r := by rw [if_neg (show ¬ (false = true) by decide)] at H; exact H
    clear H
    have H := H1
    clear H1
    obtain ⟨t255, A16, H⟩ := bindA H
    obtain ⟨t258, A17, H⟩ := bindA H
    obtain rfl := Option.some.inj H
    have hcz18_0 : wc.cell? ⟨gb252, 0, none⟩ = some (.bool a0_0) := (blk_cell BK252.out 0).trans rfl
    have hcz18_1 : wc.cell? ⟨gb252, 1, none⟩ = some (.slice A0_1 l0_1.length c0_1) := (blk_cell BK252.out 1).trans rfl
    have hcz18_2 : wc.cell? ⟨gb252, 2, none⟩ = some (.slice A0_2 l0_2.length c0_2) := (blk_cell BK252.out 2).trans rfl
    have hfz18_0 := blk_frozen BK252.out 0
    have hfz18_1 := blk_frozen BK252.out 1
    have hfz18_2 := blk_frozen BK252.out 2
    go_wp2_with (first | ((with_reducible refine gate_callee (f := 89) rfl ?_); refine goesM (some 33) rfl rfl Try.func89 (by kernel_rfl) rfl #[.slice A0_1 l0_1.length c0_1, .slice A0_2 l0_2.length c0_2] rfl (by rfl) ?_; (with_reducible refine (nats_Gcd.calls kj1 _ _ l0_1 _ _ l0_2 t255 _ ?side1 ?side2 ?side3 ?side4 A16.out).mono ?_); (case side1 => exact ca (Kd.C_below HR0_1.out HB.out)); (case side2 => exact HC0_1.out); (case side3 => exact ca (Kd.C_below HR0_2.out HB.out)); (case side4 => exact HC0_2.out); rintro e w19 ⟨v256, rfl, ho0, hb⟩; refine ⟨_, rfl, ?_⟩; have n_ := mk3 (Kd.R_lower ho0 (below_size (bl1 HB GE252))) (blk_below (ba BK252.out) hb) (below_step (bl1 HB GE252) hb); clear BK252 HB; obtain ⟨HO257, BK252, HB⟩ := n_; (try clear hb); (try clear hb2); (try clear hk); (try clear hi); (try clear ho0); obtain ⟨Ao20, co20, eo20⟩ := Kd.R_slice HO257.out; subst eo20) | ((with_reducible refine gate_callee (f := 90) rfl ?_); refine goesM (some 34) rfl rfl Try.func90 (by kernel_rfl) rfl #[.slice Ao20 t255.length co20] rfl (by rfl) ?_; (with_reducible refine (ratio_one.calls _ _ t255 t258 _ ?side1 ?side2 A17.out).mono ?_); (case side1 => exact ca ((Kd.R_reads' HO257.out).2.2)); (case side2 => exact (Kd.R_reads' HO257.out).2.1); rintro e w' ⟨rfl, ⟨nd, rfl⟩⟩; refine ⟨_, rfl, ?_⟩))
    go_ret
    exact ⟨by first | rfl | simp [*], bl1 HB GE252⟩
def ratio_forms.l0 : Nat → List (S36) → Int → Int → Option (Bool)
 | 0, _, _, _ => none
 | k + 1, x5, x6, x7 => if x7 < x6 then (if 0 ≤ x7 then (if x7 < (x5.length : Int) then ((ratio_Form.f k ((rd_T36 x5 x7).f0) ((rd_T36 x5 x7).f1) ((rd_T36 x5 x7).f2)).bind fun t261 => (if t261 = true then (ratio_forms.l0 k x5 x6 (wrap64 (x7 + 1))) else (some false))) else (none)) else (none)) else (some true)
def ratio_forms.f (k : Nat) (l0 : List (S36)) : Option (Bool) := ratio_forms.l0 k l0 (l0.length : Int) 0
set_option maxHeartbeats 8000000 in
set_option maxRecDepth 100000 in
theorem ratio_forms.calls (k : Nat) (A0 : Option Addr) (c0 : Nat) (l0 : List (S36)) (r : Bool) (w : World) (hr0 : Kd.C k36 w A0 l0.length l0) (hc0 : l0.length ≤ c0) (h : ratio_forms.f k l0 = some r) :
  Calls Try.prog 65 #[.slice A0 l0.length c0] w fun e w' => e = .returned (.bool r) ∧ Below w.heap.size w w' := by
 have hu36 := Try.underlying36
 have HR0 := Aside0.mk hr0
 have HC0 := Aside0.mk hc0
 clear hr0 hc0
 have HB := Aside0.mk (Below.refl w.heap.size w)
 have H : (ratio_forms.l0 k l0 (l0.length : Int) 0) = some r := h
 clear h
 have H' := Aside0.mk H
 clear H
 go_enter Try.func65, Try.ntmps65
 go_wp2
 go_loopg [7] k (fun kq v7 w' => ∃ (x7_1 : Int), v7 = .int .i64 x7_1 ∧ Aside0 (ratio_forms.l0 kq l0 (l0.length : Int) x7_1 = some r) ∧ Aside0 (kq ≤ k) ∧ Aside0 (Below w.heap.size w w'))
 case atStart => exact ⟨(0), (by first | rfl | (simp; done) | (simp [*]; done)), H', ⟨Nat.le_refl _⟩, ⟨bl HB⟩⟩
 case round =>
  clear H'
  obtain ⟨x7_1, rfl, HA, HK1, HB⟩ := hrel
  cases gk with
  | zero => exact absurd HA.out (by simp [ratio_forms.l0])
  | succ k1 =>
   have H := HA.out
   clear HA
   simp only [ratio_forms.l0] at H
   by_cases c2 : x7_1 < (l0.length : Int)
   ·rw [if_pos c2] at H
    have c2b0 : decide (x7_1 < (l0.length : Int)) = true := decide_eq_true c2
    clear c2
    by_cases c3 : 0 ≤ x7_1
    ·rw [if_pos c3] at H
     have c3b0 : decide (0 ≤ x7_1) = true := decide_eq_true c3
     clear c3
     by_cases c4 : x7_1 < (l0.length : Int)
     ·rw [if_pos c4] at H
      have c4b0 : decide (x7_1 < (l0.length : Int)) = true := decide_eq_true c4
      clear c4
      obtain ⟨t261, A5, H⟩ := bindA H
      by_cases c6 : t261 = true
      ·subst c6
       have H1 : (ratio_forms.l0 k1 l0 (l0.length : Int) (wrap64 (x7_1 + 1))) = some r := by rw [if_pos rfl] at H; exact H
       clear H
       have H := H1
       clear H1
       have H' := Aside0.mk H
       clear H
       have p259 : 0 ≤ (x7_1 : Int) := of_decide_eq_true (by first | (with_reducible assumption) | assumption)
       have q259 : x7_1 < (l0.length : Int) := of_decide_eq_true (by first | (with_reducible assumption) | assumption)
       obtain ⟨ad259, A259_1, c259_1, A259_2, c259_2, e259, hx259_0, hx259_1, hx259_2, hl259_1, hi259_1, hl259_2, hi259_2⟩ := at_T36 HR0.out x7_1 p259 q259
       cases e259
       replace hx259_0 := (HB.out.cell (World.block_lt_of_cell? w _ hx259_0)).trans hx259_0
       replace hx259_1 := (HB.out.cell (World.block_lt_of_cell? w _ hx259_1)).trans hx259_1
       replace hx259_2 := (HB.out.cell (World.block_lt_of_cell? w _ hx259_2)).trans hx259_2
       have HR259_1 := Aside0.mk hi259_1
       have HC259_1 := Aside0.mk hl259_1
       clear hi259_1 hl259_1
       have HR259_2 := Aside0.mk hi259_2
       have HC259_2 := Aside0.mk hl259_2
       clear hi259_2 hl259_2
       replace p259 := eq_true p259
       replace q259 := eq_true q259
       go_wp2_with (first | ((with_reducible refine gate_dst (N := 4) rfl ?_); refine box_event ?hg (N := 4) ?hd (cs := #[.bool false, .slice none 0 0, .slice none 0 0]) (t := 36) ?hr ?_; (case hd => rfl); (case hg => rfl); (case hr => first | (go_simp; done) | (go_simp; rfl)); intro gb260 hg w7 hbox hb; have n_ := mk4 (below_step (bl HB) hb) (hbox) ((by rw [hg]; exact (below_size (bl HB)) : w.heap.size ≤ gb260)) ((by rw [hg]; exact (below_size (bl HB)) : w.heap.size ≤ gb260)); clear HB; obtain ⟨HB, BK260, GW260, GE260⟩ := n_; clear hb hbox hg; obtain ⟨hcz8_0, hcz8_1, hcz8_2, hfz8_0, hfz8_1, hfz8_2⟩ := blk3 BK260.out) | ((with_reducible refine gate_callee (f := 88) rfl ?_); refine goesM (some 12) rfl rfl Try.func88 (by kernel_rfl) rfl #[.agg #[.bool ((rd_T36 l0 x7_1).f0), .slice A259_1 ((rd_T36 l0 x7_1).f1).length c259_1, .slice A259_2 ((rd_T36 l0 x7_1).f2).length c259_2]] rfl (by rfl) ?_; (with_reducible refine (ratio_Form.calls k1 ((rd_T36 l0 x7_1).f0) _ _ ((rd_T36 l0 x7_1).f1) _ _ ((rd_T36 l0 x7_1).f2) true _ ?side1 ?side2 ?side3 ?side4 A5.out).mono ?_); (case side1 => exact Kd.C_below HR259_1.out (bl1 HB GE260)); (case side2 => exact HC259_1.out); (case side3 => exact Kd.C_below HR259_2.out (bl1 HB GE260)); (case side4 => exact HC259_2.out); rintro e w9 ⟨rfl, hb⟩; refine ⟨_, rfl, ?_⟩; have n_ := mk2 (blk_below (g := gb260) (o := .cells #[.bool ((rd_T36 l0 x7_1).f0), .slice A259_1 ((rd_T36 l0 x7_1).f1).length c259_1, .slice A259_2 ((rd_T36 l0 x7_1).f2).length c259_2] 36 (0, 0)) (by exact bp BK260.out rfl) hb) (below_step (bl1 HB GE260) hb); clear BK260 HB; obtain ⟨BK260, HB⟩ := n_; (try clear hb); (try clear hb2); (try clear hk); (try clear hi)))
       go_roundg k1
       case measure => have := HK1.out; omega
       case rel => exact ⟨(wrap64 (x7_1 + 1)), (by first | rfl | (simp; done) | (simp [*]; done)), H', ⟨by have := HK1.out; omega⟩, ⟨bl1 HB GE260⟩⟩
      ·replace c6 := Bool.eq_false_iff.mpr c6
       subst c6
       have H1 : (some false) = some r := by rw [if_neg (show ¬ (false = true) by decide)] at H; exact H
       clear H
       have H := H1
       clear H1
       obtain rfl := Option.some.inj H
       have p259 : 0 ≤ (x7_1 : Int) := of_decide_eq_true (by first | (with_reducible assumption) | assumption)
       have q259 : x7_1 < (l0.length : Int) := of_decide_eq_true (by first | (with_reducible assumption) | assumption)
       obtain ⟨ad259, A259_1, c259_1, A259_2, c259_2, e259, hx259_0, hx259_1, hx259_2, hl259_1, hi259_1, hl259_2, hi259_2⟩ := at_T36 HR0.out x7_1 p259 q259
       cases e259
       replace hx259_0 := (HB.out.cell (World.block_lt_of_cell? w _ hx259_0)).trans hx259_0
       replace hx259_1 := (HB.out.cell (World.block_lt_of_cell? w _ hx259_1)).trans hx259_1
       replace hx259_2 := (HB.out.cell (World.block_lt_of_cell? w _ hx259_2)).trans hx259_2
       have HR259_1 := Aside0.mk hi259_1
       have HC259_1 := Aside0.mk hl259_1
       clear hi259_1 hl259_1
       have HR259_2 := Aside0.mk hi259_2
       have HC259_2 := Aside0.mk hl259_2
       clear hi259_2 hl259_2
       replace p259 := eq_true p259
       replace q259 := eq_true q259
       go_wp2_with (first | ((with_reducible refine gate_dst (N := 4) rfl ?_); refine box_event ?hg (N := 4) ?hd (cs := #[.bool false, .slice none 0 0, .slice none 0 0]) (t := 36) ?hr ?_; (case hd => rfl); (case hg => rfl); (case hr => first | (go_simp; done) | (go_simp; rfl)); intro gb260 hg w10 hbox hb; have n_ := mk4 (below_step (bl HB) hb) (hbox) ((by rw [hg]; exact (below_size (bl HB)) : w.heap.size ≤ gb260)) ((by rw [hg]; exact (below_size (bl HB)) : w.heap.size ≤ gb260)); clear HB; obtain ⟨HB, BK260, GW260, GE260⟩ := n_; clear hb hbox hg; obtain ⟨hcz11_0, hcz11_1, hcz11_2, hfz11_0, hfz11_1, hfz11_2⟩ := blk3 BK260.out) | ((with_reducible refine gate_callee (f := 88) rfl ?_); refine goesM (some 12) rfl rfl Try.func88 (by kernel_rfl) rfl #[.agg #[.bool ((rd_T36 l0 x7_1).f0), .slice A259_1 ((rd_T36 l0 x7_1).f1).length c259_1, .slice A259_2 ((rd_T36 l0 x7_1).f2).length c259_2]] rfl (by rfl) ?_; (with_reducible refine (ratio_Form.calls k1 ((rd_T36 l0 x7_1).f0) _ _ ((rd_T36 l0 x7_1).f1) _ _ ((rd_T36 l0 x7_1).f2) false _ ?side1 ?side2 ?side3 ?side4 A5.out).mono ?_); (case side1 => exact Kd.C_below HR259_1.out (bl1 HB GE260)); (case side2 => exact HC259_1.out); (case side3 => exact Kd.C_below HR259_2.out (bl1 HB GE260)); (case side4 => exact HC259_2.out); rintro e w12 ⟨rfl, hb⟩; refine ⟨_, rfl, ?_⟩; have n_ := mk2 (blk_below (g := gb260) (o := .cells #[.bool ((rd_T36 l0 x7_1).f0), .slice A259_1 ((rd_T36 l0 x7_1).f1).length c259_1, .slice A259_2 ((rd_T36 l0 x7_1).f2).length c259_2] 36 (0, 0)) (by exact bp BK260.out rfl) hb) (below_step (bl1 HB GE260) hb); clear BK260 HB; obtain ⟨BK260, HB⟩ := n_; (try clear hb); (try clear hb2); (try clear hk); (try clear hi)))
       go_ret
       exact ⟨by first | rfl | simp [*], bl1 HB GE260⟩
     ·rw [if_neg c4] at H
      exact absurd H (by simp)
    ·rw [if_neg c3] at H
     exact absurd H (by simp)
   ·rw [if_neg c2] at H
    have c2b0 : decide (x7_1 < (l0.length : Int)) = false := decide_eq_false c2
    clear c2
    obtain rfl := Option.some.inj H
    go_wp2
    go_ret
    exact ⟨by first | rfl | simp [*], bl HB⟩
def ratio_Make.f (k : Nat) (a0 : Bool) (l1 : List Int) (l2 : List Int) : Option (Bool × List Int × List Int × Int) := (nats_Trim.f k l1).bind fun t263 => ((nats_Trim.f k l2).bind fun t266 => (if (t266.length : Int) = 0 then (some (false, ([] : List Int), ([] : List Int), 10)) else (if (t263.length : Int) = 0 then (some (false, ([] : List Int), (([1] : List Int)), 0)) else ((nats_Gcd.f k t263 t266).bind fun t272 => ((ratio_one.f t272).bind fun t275 => (if t275 = true then (if (t263.length : Int) > 16 then (some (false, ([] : List Int), ([] : List Int), 4)) else (if (t266.length : Int) > 16 then (some (false, ([] : List Int), ([] : List Int), 4)) else (some (a0, t263, t266, 0)))) else ((nats_QuoRem.f k t263 t272).bind fun bt276 => ((nats_QuoRem.f k t266 t272).bind fun bt282 => (if (bt276.1.length : Int) > 16 then (some (false, ([] : List Int), ([] : List Int), 4)) else (if (bt282.1.length : Int) > 16 then (some (false, ([] : List Int), ([] : List Int), 4)) else (some (a0, bt276.1, bt282.1, 0))))))))))))
set_option maxHeartbeats 8000000 in
set_option maxRecDepth 100000 in
theorem ratio_Make.calls (k : Nat) (a0 : Bool) (A1 : Option Addr) (c1 : Nat) (l1 : List Int) (A2 : Option Addr) (c2 : Nat) (l2 : List Int) (r1 : Bool) (r2 : List Int) (r3 : List Int) (r4 : Int) (w : World) (hr1 : Kd.C (Kd.int .u32) w A1 l1.length l1) (hc1 : l1.length ≤ c1) (hr2 : Kd.C (Kd.int .u32) w A2 l2.length l2) (hc2 : l2.length ≤ c2) (h : ratio_Make.f k a0 l1 l2 = some (r1, r2, r3, r4)) :
  Calls Try.prog 66 #[.bool a0, .slice A1 l1.length c1, .slice A2 l2.length c2] w fun e w' => ∃ v1_ v2_ : Value, e = .returned (.tuple #[.agg #[.bool r1, v1_, v2_], .int .i64 r4]) ∧ Kd.R (Kd.int .u32) 99 w' w.heap.size (fun k_ => some k_ ≠ (v2_ : Value).ownBlock) v1_ r2 ∧ Kd.R (Kd.int .u32) 99 w' w.heap.size (fun k_ => some k_ ≠ (v1_ : Value).ownBlock) v2_ r3 ∧ Below w.heap.size w w' := by
 have hu36 := Try.underlying36
 have HR1 := Aside0.mk hr1
 have HC1 := Aside0.mk hc1
 clear hr1 hc1
 have HR2 := Aside0.mk hr2
 have HC2 := Aside0.mk hc2
 clear hr2 hc2
 have HB := Aside0.mk (Below.refl w.heap.size w)
 have H : ((nats_Trim.f k l1).bind fun t263 => ((nats_Trim.f k l2).bind fun t266 => (if (t266.length : Int) = 0 then (some (false, ([] : List Int), ([] : List Int), 10)) else (if (t263.length : Int) = 0 then (some (false, ([] : List Int), (([1] : List Int)), 0)) else ((nats_Gcd.f k t263 t266).bind fun t272 => ((ratio_one.f t272).bind fun t275 => (if t275 = true then (if (t263.length : Int) > 16 then (some (false, ([] : List Int), ([] : List Int), 4)) else (if (t266.length : Int) > 16 then (some (false, ([] : List Int), ([] : List Int), 4)) else (some (a0, t263, t266, 0)))) else ((nats_QuoRem.f k t263 t272).bind fun bt276 => ((nats_QuoRem.f k t266 t272).bind fun bt282 => (if (bt276.1.length : Int) > 16 then (some (false, ([] : List Int), ([] : List Int), 4)) else (if (bt282.1.length : Int) > 16 then (some (false, ([] : List Int), ([] : List Int), 4)) else (some (a0, bt276.1, bt282.1, 0))))))))))))) = some (r1, r2, r3, r4) := h
 clear h
 obtain ⟨t263, A4, H⟩ := bindA H
 obtain ⟨t266, A5, H⟩ := bindA H
 by_cases c6 : (t266.length : Int) = 0
 ·rw [if_pos c6] at H
  have c6b0 : ((t266.length : Int) == 0) = true := beq_iff_eq.mpr c6
  have c6b1 : ((t266.length : Int) != 0) = false := bne_eq_false_iff_eq.mpr c6
  clear c6
  simp only [Option.some.injEq, Prod.mk.injEq] at H
  obtain ⟨rfl, rfl, rfl, rfl⟩ := H
  go_enter Try.func66, Try.ntmps66
  go_wp2_with (first | ((with_reducible refine gate_dst (N := 6) rfl ?_); (try (refine gate_guard (by rfl) ?_; dsimp only)); refine box_event ?hg (N := 6) ?hd (cs := #[.bool false, .slice none 0 0, .slice none 0 0]) (t := 36) ?hr ?_; (case hd => rfl); (case hg => rfl); (case hr => first | (go_simp; done) | (go_simp; rfl)); intro gb262 hg w7 hbox hb; have n_ := mk4 (below_step (bl HB) hb) (hbox) ((by rw [hg]; exact (below_size (bl HB)) : w.heap.size ≤ gb262)) ((by rw [hg]; exact (below_size (bl HB)) : w.heap.size ≤ gb262)); clear HB; obtain ⟨HB, BK262, GW262, GE262⟩ := n_; clear hb hbox hg) | ((with_reducible refine gate_callee (f := 64) rfl ?_); refine goesM (some 12) rfl rfl Try.func64 (by kernel_rfl) rfl #[.slice A1 l1.length c1] rfl (by rfl) ?_; (with_reducible refine (nats_Trim.calls k _ _ l1 t263 _ ?side1 ?side2 A4.out).mono ?_); (case side1 => exact ca (Kd.C_below HR1.out HB.out)); (case side2 => exact HC1.out); rintro e w8 ⟨v264, rfl, ho0, hb⟩; refine ⟨_, rfl, ?_⟩; have n_ := mk3 (Kd.R_lower ho0 (below_size (bl1 HB GE262))) (blk_below (ba BK262.out) hb) (below_step (bl1 HB GE262) hb); clear BK262 HB; obtain ⟨HO265, BK262, HB⟩ := n_; (try clear hb); (try clear hb2); (try clear hk); (try clear hi); (try clear ho0)) | ((with_reducible refine gate_callee (f := 64) rfl ?_); refine goesM (some 14) rfl rfl Try.func64 (by kernel_rfl) rfl #[.slice A2 l2.length c2] rfl (by rfl) ?_; (with_reducible refine (nats_Trim.calls k _ _ l2 t266 _ ?side1 ?side2 A5.out).mono ?_); (case side1 => exact ca (Kd.C_below HR2.out HB.out)); (case side2 => exact HC2.out); rintro e w9 ⟨v267, rfl, ho0, hb⟩; refine ⟨_, rfl, ?_⟩; have n_ := mk4 (Kd.R_elder' (ra HO265.out) (Kd.R_base ho0) hb) (Kd.R_lower (Kd.R_new' ho0 (Kd.R_lt (ra HO265.out))) (below_size (bl1 HB GE262))) (blk_below (ba BK262.out) hb) (below_step (bl1 HB GE262) hb); clear HO265 BK262 HB; obtain ⟨HO265, HO268, BK262, HB⟩ := n_; (try clear hb); (try clear hb2); (try clear hk); (try clear hi); (try clear ho0); obtain ⟨Ao10, co10, eo10⟩ := Kd.R_slice HO268.out; subst eo10; obtain ⟨hcz11_0, hcz11_1, hcz11_2, hfz11_0, hfz11_1, hfz11_2⟩ := blk3 BK262.out))
  refine bodyPost_ret (results_ct rfl _ _ gb262 36 #[.bool false, .slice none 0 0, .slice none 0 0] (0, 0) _ rfl (by exact bp BK262.out rfl) Try.underlying36 rfl (by kernel_rfl)) rfl ?_
  exact ⟨_, _, by first | rfl | simp [*], by first | exact Kd.R_nil _ _ _ _ _ | exact Kd.V_nil _ _ _ _ _, by first | exact Kd.R_nil _ _ _ _ _ | exact Kd.V_nil _ _ _ _ _, bl1 HB GE262⟩
 ·rw [if_neg c6] at H
  have c6b0 : ((t266.length : Int) == 0) = false := beq_eq_false_iff_ne.mpr c6
  have c6b1 : ((t266.length : Int) != 0) = true := bne_iff_ne.mpr c6
  have c6b2 : ¬ (t266 = []) := fun h_ => c6 (by rw [h_]; rfl)
  by_cases c12 : (t263.length : Int) = 0
  ·rw [if_pos c12] at H
   have c12b0 : ((t263.length : Int) == 0) = true := beq_iff_eq.mpr c12
   have c12b1 : ((t263.length : Int) != 0) = false := bne_eq_false_iff_eq.mpr c12
   clear c12
   obtain ⟨y269, hy269⟩ : ∃ y_ : List Int, y_ = (([1] : List Int)) := ⟨_, rfl⟩
   replace H : (some (false, ([] : List Int), y269, 0)) = some (r1, r2, r3, r4) := by rw [hy269]; exact H
   have Ny269 := Aside0.mk hy269
   clear hy269
   simp only [Option.some.injEq, Prod.mk.injEq] at H
   obtain ⟨rfl, rfl, rfl, rfl⟩ := H
   go_enter Try.func66, Try.ntmps66
   go_wp2_with (first | ((with_reducible refine gate_dst (N := 6) rfl ?_); (try (refine gate_guard (by rfl) ?_; dsimp only)); refine box_event ?hg (N := 6) ?hd (cs := #[.bool false, .slice none 0 0, .slice none 0 0]) (t := 36) ?hr ?_; (case hd => rfl); (case hg => rfl); (case hr => first | (go_simp; done) | (go_simp; rfl)); intro gb262 hg w13 hbox hb; have n_ := mk4 (below_step (bl HB) hb) (hbox) ((by rw [hg]; exact (below_size (bl HB)) : w.heap.size ≤ gb262)) ((by rw [hg]; exact (below_size (bl HB)) : w.heap.size ≤ gb262)); clear HB; obtain ⟨HB, BK262, GW262, GE262⟩ := n_; clear hb hbox hg) | ((with_reducible refine gate_callee (f := 64) rfl ?_); refine goesM (some 12) rfl rfl Try.func64 (by kernel_rfl) rfl #[.slice A1 l1.length c1] rfl (by rfl) ?_; (with_reducible refine (nats_Trim.calls k _ _ l1 t263 _ ?side1 ?side2 A4.out).mono ?_); (case side1 => exact ca (Kd.C_below HR1.out HB.out)); (case side2 => exact HC1.out); rintro e w14 ⟨v264, rfl, ho0, hb⟩; refine ⟨_, rfl, ?_⟩; have n_ := mk3 (Kd.R_lower ho0 (below_size (bl1 HB GE262))) (blk_below (ba BK262.out) hb) (below_step (bl1 HB GE262) hb); clear BK262 HB; obtain ⟨HO265, BK262, HB⟩ := n_; (try clear hb); (try clear hb2); (try clear hk); (try clear hi); (try clear ho0)) | ((with_reducible refine gate_callee (f := 64) rfl ?_); refine goesM (some 14) rfl rfl Try.func64 (by kernel_rfl) rfl #[.slice A2 l2.length c2] rfl (by rfl) ?_; (with_reducible refine (nats_Trim.calls k _ _ l2 t266 _ ?side1 ?side2 A5.out).mono ?_); (case side1 => exact ca (Kd.C_below HR2.out HB.out)); (case side2 => exact HC2.out); rintro e w15 ⟨v267, rfl, ho0, hb⟩; refine ⟨_, rfl, ?_⟩; have n_ := mk4 (Kd.R_elder' (ra HO265.out) (Kd.R_base ho0) hb) (Kd.R_lower (Kd.R_new' ho0 (Kd.R_lt (ra HO265.out))) (below_size (bl1 HB GE262))) (blk_below (ba BK262.out) hb) (below_step (bl1 HB GE262) hb); clear HO265 BK262 HB; obtain ⟨HO265, HO268, BK262, HB⟩ := n_; (try clear hb); (try clear hb2); (try clear hk); (try clear hi); (try clear ho0); obtain ⟨Ao16, co16, eo16⟩ := Kd.R_slice HO268.out; subst eo16; obtain ⟨Ao17, co17, eo17⟩ := Kd.R_slice HO265.out; subst eo17) | ((with_reducible refine gate_dst (N := 22) rfl ?_); (try (refine gate_guard (by rfl) ?_; dsimp only)); refine Kd.R_lit (Kd.int .u32) _ 99 ?hg (N := 22) ?hd (xs := ([1] : List Int)) (inner := [.int .u32 1]) (ok := fun _ => True) (okp := fun _ => True) ?hr ?hp (fun _ hk => hk) trivial (Below.refl _ _) (Nat.le_refl _) (by simp) ?_; (case hd => rfl); (case hg => rfl); (case hr => first | (go_simp; done) | (go_simp; rfl)); (case hp => exact (Reps.one (show Kd.M (Kd.int .u32) _ _ _ 1 [.int .u32 1] from rfl) (Reps.none _ _))); intro v270 w18 ho19 hb hg_ hnew_; clear hg_ hnew_; (first | rw [← Ny269.out] at ho19 | (simp only [Int.reduceToNat] at ho19; rw [← Ny269.out] at ho19)); have n_ := mk5 (Kd.R_elder' (ra HO265.out) (Kd.R_base ho19) hb) (Kd.R_elder' (ra HO268.out) (Kd.R_base ho19) hb) (Kd.R_lower (Kd.R_new' (Kd.R_new' ho19 (Kd.R_lt (ra HO265.out))) (Kd.R_lt (ra HO268.out))) (below_size (bl1 HB GE262))) (blk_below (ba BK262.out) hb) (below_step (bl1 HB GE262) hb); clear HO265 HO268 BK262 HB; obtain ⟨HO265, HO268, HO271, BK262, HB⟩ := n_; clear hb ho19; obtain ⟨Ao20, co20, eo20⟩ := Kd.R_slice HO271.out; subst eo20; obtain ⟨hcz21_0, hcz21_1, hcz21_2, hfz21_0, hfz21_1, hfz21_2⟩ := blk3 BK262.out))
   refine bodyPost_ret (results_ct rfl _ _ gb262 36 #[.bool false, .slice none 0 0, .slice Ao20 y269.length co20] (0, 0) _ rfl (by exact bp BK262.out rfl) Try.underlying36 rfl (by kernel_rfl)) rfl ?_
   exact ⟨_, _, by first | rfl | simp [*], by first | exact Kd.R_nil _ _ _ _ _ | exact Kd.V_nil _ _ _ _ _, ra (Kd.R_mono (Kd.R_far (p := ⟨gb262, 2, none⟩) (Kd.R_far (p := ⟨gb262, 1, none⟩) (Kd.R_far (p := ⟨gb262, 0, none⟩) (Kd.R_types HO271.out BK262.out (by decide)) (fun _ hk => hk.2) (.bool false)) (fun _ hk => hk.2) (.slice none 0 0)) (fun _ hk => hk.2) (.slice Ao20 y269.length co20)) (fun _ hk => (by simp [Value.ownBlock]))), bl1 HB GE262⟩
  ·rw [if_neg c12] at H
   have c12b0 : ((t263.length : Int) == 0) = false := beq_eq_false_iff_ne.mpr c12
   have c12b1 : ((t263.length : Int) != 0) = true := bne_iff_ne.mpr c12
   have c12b2 : ¬ (t263 = []) := fun h_ => c12 (by rw [h_]; rfl)
   obtain ⟨t272, A22, H⟩ := bindA H
   obtain ⟨t275, A23, H⟩ := bindA H
   by_cases c24 : t275 = true
   ·subst c24
    have H1 : (if (t263.length : Int) > 16 then (some (false, ([] : List Int), ([] : List Int), 4)) else (if (t266.length : Int) > 16 then (some (false, ([] : List Int), ([] : List Int), 4)) else (some (a0, t263, t266, 0)))) = some (r1, r2, r3, r4) := by rw [if_pos rfl] at H; exact H
    clear H
    have H := H1
    clear H1
    by_cases c25 : (t263.length : Int) > 16
    ·rw [if_pos c25] at H
     have c25b0 : decide (16 < (t263.length : Int)) = true := decide_eq_true c25
     have c25b1 : decide (16 < t263.length) = true := decide_eq_true (by omega)
     clear c25
     simp only [Option.some.injEq, Prod.mk.injEq] at H
     obtain ⟨rfl, rfl, rfl, rfl⟩ := H
     go_enter Try.func66, Try.ntmps66
     go_wp2_with (first | ((with_reducible refine gate_dst (N := 6) rfl ?_); (try (refine gate_guard (by rfl) ?_; dsimp only)); refine box_event ?hg (N := 6) ?hd (cs := #[.bool false, .slice none 0 0, .slice none 0 0]) (t := 36) ?hr ?_; (case hd => rfl); (case hg => rfl); (case hr => first | (go_simp; done) | (go_simp; rfl)); intro gb262 hg w26 hbox hb; have n_ := mk4 (below_step (bl HB) hb) (hbox) ((by rw [hg]; exact (below_size (bl HB)) : w.heap.size ≤ gb262)) ((by rw [hg]; exact (below_size (bl HB)) : w.heap.size ≤ gb262)); clear HB; obtain ⟨HB, BK262, GW262, GE262⟩ := n_; clear hb hbox hg) | ((with_reducible refine gate_callee (f := 64) rfl ?_); refine goesM (some 12) rfl rfl Try.func64 (by kernel_rfl) rfl #[.slice A1 l1.length c1] rfl (by rfl) ?_; (with_reducible refine (nats_Trim.calls k _ _ l1 t263 _ ?side1 ?side2 A4.out).mono ?_); (case side1 => exact ca (Kd.C_below HR1.out HB.out)); (case side2 => exact HC1.out); rintro e w27 ⟨v264, rfl, ho0, hb⟩; refine ⟨_, rfl, ?_⟩; have n_ := mk3 (Kd.R_lower ho0 (below_size (bl1 HB GE262))) (blk_below (ba BK262.out) hb) (below_step (bl1 HB GE262) hb); clear BK262 HB; obtain ⟨HO265, BK262, HB⟩ := n_; (try clear hb); (try clear hb2); (try clear hk); (try clear hi); (try clear ho0)) | ((with_reducible refine gate_callee (f := 64) rfl ?_); refine goesM (some 14) rfl rfl Try.func64 (by kernel_rfl) rfl #[.slice A2 l2.length c2] rfl (by rfl) ?_; (with_reducible refine (nats_Trim.calls k _ _ l2 t266 _ ?side1 ?side2 A5.out).mono ?_); (case side1 => exact ca (Kd.C_below HR2.out HB.out)); (case side2 => exact HC2.out); rintro e w28 ⟨v267, rfl, ho0, hb⟩; refine ⟨_, rfl, ?_⟩; have n_ := mk4 (Kd.R_elder' (ra HO265.out) (Kd.R_base ho0) hb) (Kd.R_lower (Kd.R_new' ho0 (Kd.R_lt (ra HO265.out))) (below_size (bl1 HB GE262))) (blk_below (ba BK262.out) hb) (below_step (bl1 HB GE262) hb); clear HO265 BK262 HB; obtain ⟨HO265, HO268, BK262, HB⟩ := n_; (try clear hb); (try clear hb2); (try clear hk); (try clear hi); (try clear ho0); obtain ⟨Ao29, co29, eo29⟩ := Kd.R_slice HO268.out; subst eo29; obtain ⟨Ao30, co30, eo30⟩ := Kd.R_slice HO265.out; subst eo30) | ((with_reducible refine gate_callee (f := 89) rfl ?_); refine goesM (some 26) rfl rfl Try.func89 (by kernel_rfl) rfl #[.slice Ao30 t263.length co30, .slice Ao29 t266.length co29] rfl (by rfl) ?_; (with_reducible refine (nats_Gcd.calls k _ _ t263 _ _ t266 t272 _ ?side1 ?side2 ?side3 ?side4 A22.out).mono ?_); (case side1 => exact ca ((Kd.R_reads' HO265.out).2.2)); (case side2 => exact (Kd.R_reads' HO265.out).2.1); (case side3 => exact ca ((Kd.R_reads' HO268.out).2.2)); (case side4 => exact (Kd.R_reads' HO268.out).2.1); rintro e w31 ⟨v273, rfl, ho0, hb⟩; refine ⟨_, rfl, ?_⟩; have n_ := mk5 (Kd.R_elder' (ra HO265.out) (Kd.R_base ho0) hb) (Kd.R_elder' (ra HO268.out) (Kd.R_base ho0) hb) (Kd.R_lower (Kd.R_new' (Kd.R_new' ho0 (Kd.R_lt (ra HO265.out))) (Kd.R_lt (ra HO268.out))) (below_size (bl1 HB GE262))) (blk_below (ba BK262.out) hb) (below_step (bl1 HB GE262) hb); clear HO265 HO268 BK262 HB; obtain ⟨HO265, HO268, HO274, BK262, HB⟩ := n_; (try clear hb); (try clear hb2); (try clear hk); (try clear hi); (try clear ho0); obtain ⟨Ao32, co32, eo32⟩ := Kd.R_slice HO274.out; subst eo32) | ((with_reducible refine gate_callee (f := 90) rfl ?_); refine goesM (some 28) rfl rfl Try.func90 (by kernel_rfl) rfl #[.slice Ao32 t272.length co32] rfl (by rfl) ?_; (with_reducible refine (ratio_one.calls _ _ t272 true _ ?side1 ?side2 A23.out).mono ?_); (case side1 => exact ca ((Kd.R_reads' HO274.out).2.2)); (case side2 => exact (Kd.R_reads' HO274.out).2.1); rintro e w' ⟨rfl, ⟨nd, rfl⟩⟩; refine ⟨_, rfl, ?_⟩; (try (rw [drewN_self w31]; generalize hq_ : World.drewN w31 _ = w31; have n0_ : Aside0 (Kd.R (Kd.int .u32) 99 w31 w.heap.size (fun k_ => some k_ ≠ (.slice Ao29 t266.length co29 : Value).ownBlock ∧ some k_ ≠ (.slice Ao32 t272.length co32 : Value).ownBlock) (.slice Ao30 t263.length co30) t263) := ⟨by rw [← hq_]; exact (ra (Kd.R_mono HO265.out (fun _ hk => ⟨hk.1.2, hk.2⟩)))⟩; have n1_ : Aside0 (Kd.R (Kd.int .u32) 99 w31 w.heap.size (fun k_ => some k_ ≠ (.slice Ao30 t263.length co30 : Value).ownBlock ∧ some k_ ≠ (.slice Ao32 t272.length co32 : Value).ownBlock) (.slice Ao29 t266.length co29) t266) := ⟨by rw [← hq_]; exact (ra (Kd.R_mono HO268.out (fun _ hk => ⟨hk.1.2, hk.2⟩)))⟩; have n2_ : Aside0 (Kd.R (Kd.int .u32) 99 w31 w.heap.size (fun k_ => some k_ ≠ (.slice Ao30 t263.length co30 : Value).ownBlock ∧ some k_ ≠ (.slice Ao29 t266.length co29 : Value).ownBlock) (.slice Ao32 t272.length co32) t272) := ⟨by rw [← hq_]; exact (ra (Kd.R_mono HO274.out (fun _ hk => ⟨hk.1.2, hk.2⟩)))⟩; have n3_ : Aside0 (w31.heap[gb262]? = some (.cells #[.bool false, .slice none 0 0, .slice none 0 0] 36 (0, 0))) := ⟨by rw [← hq_]; exact (ba BK262.out)⟩; have n4_ : Aside0 (Below w.heap.size w w31) := ⟨by rw [← hq_]; exact (bl1 HB GE262)⟩; clear HO265 HO268 HO274 BK262 HB hq_; have HO265 := n0_; have HO268 := n1_; have HO274 := n2_; have BK262 := n3_; have HB := n4_; clear n0_ n1_ n2_ n3_ n4_)); obtain ⟨hcz33_0, hcz33_1, hcz33_2, hfz33_0, hfz33_1, hfz33_2⟩ := blk3 BK262.out))
     refine bodyPost_ret (results_ct rfl _ _ gb262 36 #[.bool false, .slice none 0 0, .slice none 0 0] (0, 0) _ rfl (by exact bp BK262.out rfl) Try.underlying36 rfl (by kernel_rfl)) rfl ?_
     exact ⟨_, _, by first | rfl | simp [*], by first | exact Kd.R_nil _ _ _ _ _ | exact Kd.V_nil _ _ _ _ _, by first | exact Kd.R_nil _ _ _ _ _ | exact Kd.V_nil _ _ _ _ _, bl1 HB GE262⟩
    ·rw [if_neg c25] at H
     have c25b0 : decide (16 < (t263.length : Int)) = false := decide_eq_false c25
     have c25b1 : decide (16 < t263.length) = false := decide_eq_false (by omega)
     clear c25
     by_cases c34 : (t266.length : Int) > 16
     ·rw [if_pos c34] at H
      have c34b0 : decide (16 < (t266.length : Int)) = true := decide_eq_true c34
      have c34b1 : decide (16 < t266.length) = true := decide_eq_true (by omega)
      clear c34
      simp only [Option.some.injEq, Prod.mk.injEq] at H
      obtain ⟨rfl, rfl, rfl, rfl⟩ := H
      go_enter Try.func66, Try.ntmps66
      go_wp2_with (first | ((with_reducible refine gate_dst (N := 6) rfl ?_); (try (refine gate_guard (by rfl) ?_; dsimp only)); refine box_event ?hg (N := 6) ?hd (cs := #[.bool false, .slice none 0 0, .slice none 0 0]) (t := 36) ?hr ?_; (case hd => rfl); (case hg => rfl); (case hr => first | (go_simp; done) | (go_simp; rfl)); intro gb262 hg w35 hbox hb; have n_ := mk4 (below_step (bl HB) hb) (hbox) ((by rw [hg]; exact (below_size (bl HB)) : w.heap.size ≤ gb262)) ((by rw [hg]; exact (below_size (bl HB)) : w.heap.size ≤ gb262)); clear HB; obtain ⟨HB, BK262, GW262, GE262⟩ := n_; clear hb hbox hg) | ((with_reducible refine gate_callee (f := 64) rfl ?_); refine goesM (some 12) rfl rfl Try.func64 (by kernel_rfl) rfl #[.slice A1 l1.length c1] rfl (by rfl) ?_; (with_reducible refine (nats_Trim.calls k _ _ l1 t263 _ ?side1 ?side2 A4.out).mono ?_); (case side1 => exact ca (Kd.C_below HR1.out HB.out)); (case side2 => exact HC1.out); rintro e w36 ⟨v264, rfl, ho0, hb⟩; refine ⟨_, rfl, ?_⟩; have n_ := mk3 (Kd.R_lower ho0 (below_size (bl1 HB GE262))) (blk_below (ba BK262.out) hb) (below_step (bl1 HB GE262) hb); clear BK262 HB; obtain ⟨HO265, BK262, HB⟩ := n_; (try clear hb); (try clear hb2); (try clear hk); (try clear hi); (try clear ho0)) | ((with_reducible refine gate_callee (f := 64) rfl ?_); refine goesM (some 14) rfl rfl Try.func64 (by kernel_rfl) rfl #[.slice A2 l2.length c2] rfl (by rfl) ?_; (with_reducible refine (nats_Trim.calls k _ _ l2 t266 _ ?side1 ?side2 A5.out).mono ?_); (case side1 => exact ca (Kd.C_below HR2.out HB.out)); (case side2 => exact HC2.out); rintro e w37 ⟨v267, rfl, ho0, hb⟩; refine ⟨_, rfl, ?_⟩; have n_ := mk4 (Kd.R_elder' (ra HO265.out) (Kd.R_base ho0) hb) (Kd.R_lower (Kd.R_new' ho0 (Kd.R_lt (ra HO265.out))) (below_size (bl1 HB GE262))) (blk_below (ba BK262.out) hb) (below_step (bl1 HB GE262) hb); clear HO265 BK262 HB; obtain ⟨HO265, HO268, BK262, HB⟩ := n_; (try clear hb); (try clear hb2); (try clear hk); (try clear hi); (try clear ho0); obtain ⟨Ao38, co38, eo38⟩ := Kd.R_slice HO268.out; subst eo38; obtain ⟨Ao39, co39, eo39⟩ := Kd.R_slice HO265.out; subst eo39) | ((with_reducible refine gate_callee (f := 89) rfl ?_); refine goesM (some 26) rfl rfl Try.func89 (by kernel_rfl) rfl #[.slice Ao39 t263.length co39, .slice Ao38 t266.length co38] rfl (by rfl) ?_; (with_reducible refine (nats_Gcd.calls k _ _ t263 _ _ t266 t272 _ ?side1 ?side2 ?side3 ?side4 A22.out).mono ?_); (case side1 => exact ca ((Kd.R_reads' HO265.out).2.2)); (case side2 => exact (Kd.R_reads' HO265.out).2.1); (case side3 => exact ca ((Kd.R_reads' HO268.out).2.2)); (case side4 => exact (Kd.R_reads' HO268.out).2.1); rintro e w40 ⟨v273, rfl, ho0, hb⟩; refine ⟨_, rfl, ?_⟩; have n_ := mk5 (Kd.R_elder' (ra HO265.out) (Kd.R_base ho0) hb) (Kd.R_elder' (ra HO268.out) (Kd.R_base ho0) hb) (Kd.R_lower (Kd.R_new' (Kd.R_new' ho0 (Kd.R_lt (ra HO265.out))) (Kd.R_lt (ra HO268.out))) (below_size (bl1 HB GE262))) (blk_below (ba BK262.out) hb) (below_step (bl1 HB GE262) hb); clear HO265 HO268 BK262 HB; obtain ⟨HO265, HO268, HO274, BK262, HB⟩ := n_; (try clear hb); (try clear hb2); (try clear hk); (try clear hi); (try clear ho0); obtain ⟨Ao41, co41, eo41⟩ := Kd.R_slice HO274.out; subst eo41) | ((with_reducible refine gate_callee (f := 90) rfl ?_); refine goesM (some 28) rfl rfl Try.func90 (by kernel_rfl) rfl #[.slice Ao41 t272.length co41] rfl (by rfl) ?_; (with_reducible refine (ratio_one.calls _ _ t272 true _ ?side1 ?side2 A23.out).mono ?_); (case side1 => exact ca ((Kd.R_reads' HO274.out).2.2)); (case side2 => exact (Kd.R_reads' HO274.out).2.1); rintro e w' ⟨rfl, ⟨nd, rfl⟩⟩; refine ⟨_, rfl, ?_⟩; (try (rw [drewN_self w40]; generalize hq_ : World.drewN w40 _ = w40; have n0_ : Aside0 (Kd.R (Kd.int .u32) 99 w40 w.heap.size (fun k_ => some k_ ≠ (.slice Ao38 t266.length co38 : Value).ownBlock ∧ some k_ ≠ (.slice Ao41 t272.length co41 : Value).ownBlock) (.slice Ao39 t263.length co39) t263) := ⟨by rw [← hq_]; exact (ra (Kd.R_mono HO265.out (fun _ hk => ⟨hk.1.2, hk.2⟩)))⟩; have n1_ : Aside0 (Kd.R (Kd.int .u32) 99 w40 w.heap.size (fun k_ => some k_ ≠ (.slice Ao39 t263.length co39 : Value).ownBlock ∧ some k_ ≠ (.slice Ao41 t272.length co41 : Value).ownBlock) (.slice Ao38 t266.length co38) t266) := ⟨by rw [← hq_]; exact (ra (Kd.R_mono HO268.out (fun _ hk => ⟨hk.1.2, hk.2⟩)))⟩; have n2_ : Aside0 (Kd.R (Kd.int .u32) 99 w40 w.heap.size (fun k_ => some k_ ≠ (.slice Ao39 t263.length co39 : Value).ownBlock ∧ some k_ ≠ (.slice Ao38 t266.length co38 : Value).ownBlock) (.slice Ao41 t272.length co41) t272) := ⟨by rw [← hq_]; exact (ra (Kd.R_mono HO274.out (fun _ hk => ⟨hk.1.2, hk.2⟩)))⟩; have n3_ : Aside0 (w40.heap[gb262]? = some (.cells #[.bool false, .slice none 0 0, .slice none 0 0] 36 (0, 0))) := ⟨by rw [← hq_]; exact (ba BK262.out)⟩; have n4_ : Aside0 (Below w.heap.size w w40) := ⟨by rw [← hq_]; exact (bl1 HB GE262)⟩; clear HO265 HO268 HO274 BK262 HB hq_; have HO265 := n0_; have HO268 := n1_; have HO274 := n2_; have BK262 := n3_; have HB := n4_; clear n0_ n1_ n2_ n3_ n4_)); obtain ⟨hcz42_0, hcz42_1, hcz42_2, hfz42_0, hfz42_1, hfz42_2⟩ := blk3 BK262.out))
      refine bodyPost_ret (results_ct rfl _ _ gb262 36 #[.bool false, .slice none 0 0, .slice none 0 0] (0, 0) _ rfl (by exact bp BK262.out rfl) Try.underlying36 rfl (by kernel_rfl)) rfl ?_
      exact ⟨_, _, by first | rfl | simp [*], by first | exact Kd.R_nil _ _ _ _ _ | exact Kd.V_nil _ _ _ _ _, by first | exact Kd.R_nil _ _ _ _ _ | exact Kd.V_nil _ _ _ _ _, bl1 HB GE262⟩
     ·rw [if_neg c34] at H
      have c34b0 : decide (16 < (t266.length : Int)) = false := decide_eq_false c34
      have c34b1 : decide (16 < t266.length) = false := decide_eq_false (by omega)
      clear c34
      simp only [Option.some.injEq, Prod.mk.injEq] at H
      obtain ⟨rfl, rfl, rfl, rfl⟩ := H
      go_enter Try.func66, Try.ntmps66
      go_wp2_with (first | ((with_reducible refine gate_dst (N := 6) rfl ?_); (try (refine gate_guard (by rfl) ?_; dsimp only)); refine box_event ?hg (N := 6) ?hd (cs := #[.bool false, .slice none 0 0, .slice none 0 0]) (t := 36) ?hr ?_; (case hd => rfl); (case hg => rfl); (case hr => first | (go_simp; done) | (go_simp; rfl)); intro gb262 hg w43 hbox hb; have n_ := mk4 (below_step (bl HB) hb) (hbox) ((by rw [hg]; exact (below_size (bl HB)) : w.heap.size ≤ gb262)) ((by rw [hg]; exact (below_size (bl HB)) : w.heap.size ≤ gb262)); clear HB; obtain ⟨HB, BK262, GW262, GE262⟩ := n_; clear hb hbox hg) | ((with_reducible refine gate_callee (f := 64) rfl ?_); refine goesM (some 12) rfl rfl Try.func64 (by kernel_rfl) rfl #[.slice A1 l1.length c1] rfl (by rfl) ?_; (with_reducible refine (nats_Trim.calls k _ _ l1 t263 _ ?side1 ?side2 A4.out).mono ?_); (case side1 => exact ca (Kd.C_below HR1.out HB.out)); (case side2 => exact HC1.out); rintro e w44 ⟨v264, rfl, ho0, hb⟩; refine ⟨_, rfl, ?_⟩; have n_ := mk3 (Kd.R_lower ho0 (below_size (bl1 HB GE262))) (blk_below (ba BK262.out) hb) (below_step (bl1 HB GE262) hb); clear BK262 HB; obtain ⟨HO265, BK262, HB⟩ := n_; (try clear hb); (try clear hb2); (try clear hk); (try clear hi); (try clear ho0)) | ((with_reducible refine gate_callee (f := 64) rfl ?_); refine goesM (some 14) rfl rfl Try.func64 (by kernel_rfl) rfl #[.slice A2 l2.length c2] rfl (by rfl) ?_; (with_reducible refine (nats_Trim.calls k _ _ l2 t266 _ ?side1 ?side2 A5.out).mono ?_); (case side1 => exact ca (Kd.C_below HR2.out HB.out)); (case side2 => exact HC2.out); rintro e w45 ⟨v267, rfl, ho0, hb⟩; refine ⟨_, rfl, ?_⟩; have n_ := mk4 (Kd.R_elder' (ra HO265.out) (Kd.R_base ho0) hb) (Kd.R_lower (Kd.R_new' ho0 (Kd.R_lt (ra HO265.out))) (below_size (bl1 HB GE262))) (blk_below (ba BK262.out) hb) (below_step (bl1 HB GE262) hb); clear HO265 BK262 HB; obtain ⟨HO265, HO268, BK262, HB⟩ := n_; (try clear hb); (try clear hb2); (try clear hk); (try clear hi); (try clear ho0); obtain ⟨Ao46, co46, eo46⟩ := Kd.R_slice HO268.out; subst eo46; obtain ⟨Ao47, co47, eo47⟩ := Kd.R_slice HO265.out; subst eo47) | ((with_reducible refine gate_callee (f := 89) rfl ?_); refine goesM (some 26) rfl rfl Try.func89 (by kernel_rfl) rfl #[.slice Ao47 t263.length co47, .slice Ao46 t266.length co46] rfl (by rfl) ?_; (with_reducible refine (nats_Gcd.calls k _ _ t263 _ _ t266 t272 _ ?side1 ?side2 ?side3 ?side4 A22.out).mono ?_); (case side1 => exact ca ((Kd.R_reads' HO265.out).2.2)); (case side2 => exact (Kd.R_reads' HO265.out).2.1); (case side3 => exact ca ((Kd.R_reads' HO268.out).2.2)); (case side4 => exact (Kd.R_reads' HO268.out).2.1); rintro e w48 ⟨v273, rfl, ho0, hb⟩; refine ⟨_, rfl, ?_⟩; have n_ := mk5 (Kd.R_elder' (ra HO265.out) (Kd.R_base ho0) hb) (Kd.R_elder' (ra HO268.out) (Kd.R_base ho0) hb) (Kd.R_lower (Kd.R_new' (Kd.R_new' ho0 (Kd.R_lt (ra HO265.out))) (Kd.R_lt (ra HO268.out))) (below_size (bl1 HB GE262))) (blk_below (ba BK262.out) hb) (below_step (bl1 HB GE262) hb); clear HO265 HO268 BK262 HB; obtain ⟨HO265, HO268, HO274, BK262, HB⟩ := n_; (try clear hb); (try clear hb2); (try clear hk); (try clear hi); (try clear ho0); obtain ⟨Ao49, co49, eo49⟩ := Kd.R_slice HO274.out; subst eo49) | ((with_reducible refine gate_callee (f := 90) rfl ?_); refine goesM (some 28) rfl rfl Try.func90 (by kernel_rfl) rfl #[.slice Ao49 t272.length co49] rfl (by rfl) ?_; (with_reducible refine (ratio_one.calls _ _ t272 true _ ?side1 ?side2 A23.out).mono ?_); (case side1 => exact ca ((Kd.R_reads' HO274.out).2.2)); (case side2 => exact (Kd.R_reads' HO274.out).2.1); rintro e w' ⟨rfl, ⟨nd, rfl⟩⟩; refine ⟨_, rfl, ?_⟩; (try (rw [drewN_self w48]; generalize hq_ : World.drewN w48 _ = w48; have n0_ : Aside0 (Kd.R (Kd.int .u32) 99 w48 w.heap.size (fun k_ => some k_ ≠ (.slice Ao46 t266.length co46 : Value).ownBlock ∧ some k_ ≠ (.slice Ao49 t272.length co49 : Value).ownBlock) (.slice Ao47 t263.length co47) t263) := ⟨by rw [← hq_]; exact (ra (Kd.R_mono HO265.out (fun _ hk => ⟨hk.1.2, hk.2⟩)))⟩; have n1_ : Aside0 (Kd.R (Kd.int .u32) 99 w48 w.heap.size (fun k_ => some k_ ≠ (.slice Ao47 t263.length co47 : Value).ownBlock ∧ some k_ ≠ (.slice Ao49 t272.length co49 : Value).ownBlock) (.slice Ao46 t266.length co46) t266) := ⟨by rw [← hq_]; exact (ra (Kd.R_mono HO268.out (fun _ hk => ⟨hk.1.2, hk.2⟩)))⟩; have n2_ : Aside0 (Kd.R (Kd.int .u32) 99 w48 w.heap.size (fun k_ => some k_ ≠ (.slice Ao47 t263.length co47 : Value).ownBlock ∧ some k_ ≠ (.slice Ao46 t266.length co46 : Value).ownBlock) (.slice Ao49 t272.length co49) t272) := ⟨by rw [← hq_]; exact (ra (Kd.R_mono HO274.out (fun _ hk => ⟨hk.1.2, hk.2⟩)))⟩; have n3_ : Aside0 (w48.heap[gb262]? = some (.cells #[.bool false, .slice none 0 0, .slice none 0 0] 36 (0, 0))) := ⟨by rw [← hq_]; exact (ba BK262.out)⟩; have n4_ : Aside0 (Below w.heap.size w w48) := ⟨by rw [← hq_]; exact (bl1 HB GE262)⟩; clear HO265 HO268 HO274 BK262 HB hq_; have HO265 := n0_; have HO268 := n1_; have HO274 := n2_; have BK262 := n3_; have HB := n4_; clear n0_ n1_ n2_ n3_ n4_)); obtain ⟨hcz50_0, hcz50_1, hcz50_2, hfz50_0, hfz50_1, hfz50_2⟩ := blk3 BK262.out))
      refine bodyPost_ret (results_ct rfl _ _ gb262 36 #[.bool a0, .slice Ao47 t263.length co47, .slice Ao46 t266.length co46] (0, 0) _ rfl (by exact bp BK262.out rfl) Try.underlying36 rfl (by kernel_rfl)) rfl ?_
      exact ⟨_, _, by first | rfl | simp [*], ra (Kd.R_mono (Kd.R_far (p := ⟨gb262, 2, none⟩) (Kd.R_far (p := ⟨gb262, 1, none⟩) (Kd.R_far (p := ⟨gb262, 0, none⟩) (Kd.R_types HO265.out BK262.out (by decide)) (fun _ hk => hk.2) (.bool a0)) (fun _ hk => hk.2) (.slice Ao47 t263.length co47)) (fun _ hk => hk.2) (.slice Ao46 t266.length co46)) (fun _ hk => by first | exact hk.1.1.2 | exact hk.1.1)), ra (Kd.R_mono (Kd.R_far (p := ⟨gb262, 2, none⟩) (Kd.R_far (p := ⟨gb262, 1, none⟩) (Kd.R_far (p := ⟨gb262, 0, none⟩) (Kd.R_types HO268.out BK262.out (by decide)) (fun _ hk => hk.2) (.bool a0)) (fun _ hk => hk.2) (.slice Ao47 t263.length co47)) (fun _ hk => hk.2) (.slice Ao46 t266.length co46)) (fun _ hk => by first | exact hk.1.1.2 | exact hk.1.1)), bl1 HB GE262⟩
   ·replace c24 := Bool.eq_false_iff.mpr c24
    subst c24
    have H1 : ((nats_QuoRem.f k t263 t272).bind fun bt276 => ((nats_QuoRem.f k t266 t272).bind fun bt282 => (if (bt276.1.length : Int) > 16 then (some (false, ([] : List Int), ([] : List Int), 4)) else (if (bt282.1.length : Int) > 16 then (some (false, ([] : List Int), ([] : List Int), 4)) else (some (a0, bt276.1, bt282.1, 0)))))) = some (r1, r2, r3, r4) := by rw [if_neg (show ¬ (false = true) by decide)] at H; exact H
    clear H
    have H := H1
    clear H1
    obtain ⟨⟨t276, t277⟩, A51, H⟩ := bindA H
    dsimp only at H
    obtain ⟨⟨t282, t283⟩, A52, H⟩ := bindA H
    dsimp only at H
    by_cases c53 : (t276.length : Int) > 16
    ·rw [if_pos c53] at H
     have c53b0 : decide (16 < (t276.length : Int)) = true := decide_eq_true c53
     have c53b1 : decide (16 < t276.length) = true := decide_eq_true (by omega)
     clear c53
     simp only [Option.some.injEq, Prod.mk.injEq] at H
     obtain ⟨rfl, rfl, rfl, rfl⟩ := H
     go_enter Try.func66, Try.ntmps66
     go_wp2_with (first | ((with_reducible refine gate_dst (N := 6) rfl ?_); (try (refine gate_guard (by rfl) ?_; dsimp only)); refine box_event ?hg (N := 6) ?hd (cs := #[.bool false, .slice none 0 0, .slice none 0 0]) (t := 36) ?hr ?_; (case hd => rfl); (case hg => rfl); (case hr => first | (go_simp; done) | (go_simp; rfl)); intro gb262 hg w54 hbox hb; have n_ := mk4 (below_step (bl HB) hb) (hbox) ((by rw [hg]; exact (below_size (bl HB)) : w.heap.size ≤ gb262)) ((by rw [hg]; exact (below_size (bl HB)) : w.heap.size ≤ gb262)); clear HB; obtain ⟨HB, BK262, GW262, GE262⟩ := n_; clear hb hbox hg) | ((with_reducible refine gate_callee (f := 64) rfl ?_); refine goesM (some 12) rfl rfl Try.func64 (by kernel_rfl) rfl #[.slice A1 l1.length c1] rfl (by rfl) ?_; (with_reducible refine (nats_Trim.calls k _ _ l1 t263 _ ?side1 ?side2 A4.out).mono ?_); (case side1 => exact ca (Kd.C_below HR1.out HB.out)); (case side2 => exact HC1.out); rintro e w55 ⟨v264, rfl, ho0, hb⟩; refine ⟨_, rfl, ?_⟩; have n_ := mk3 (Kd.R_lower ho0 (below_size (bl1 HB GE262))) (blk_below (ba BK262.out) hb) (below_step (bl1 HB GE262) hb); clear BK262 HB; obtain ⟨HO265, BK262, HB⟩ := n_; (try clear hb); (try clear hb2); (try clear hk); (try clear hi); (try clear ho0)) | ((with_reducible refine gate_callee (f := 64) rfl ?_); refine goesM (some 14) rfl rfl Try.func64 (by kernel_rfl) rfl #[.slice A2 l2.length c2] rfl (by rfl) ?_; (with_reducible refine (nats_Trim.calls k _ _ l2 t266 _ ?side1 ?side2 A5.out).mono ?_); (case side1 => exact ca (Kd.C_below HR2.out HB.out)); (case side2 => exact HC2.out); rintro e w56 ⟨v267, rfl, ho0, hb⟩; refine ⟨_, rfl, ?_⟩; have n_ := mk4 (Kd.R_elder' (ra HO265.out) (Kd.R_base ho0) hb) (Kd.R_lower (Kd.R_new' ho0 (Kd.R_lt (ra HO265.out))) (below_size (bl1 HB GE262))) (blk_below (ba BK262.out) hb) (below_step (bl1 HB GE262) hb); clear HO265 BK262 HB; obtain ⟨HO265, HO268, BK262, HB⟩ := n_; (try clear hb); (try clear hb2); (try clear hk); (try clear hi); (try clear ho0); obtain ⟨Ao57, co57, eo57⟩ := Kd.R_slice HO268.out; subst eo57; obtain ⟨Ao58, co58, eo58⟩ := Kd.R_slice HO265.out; subst eo58) | ((with_reducible refine gate_callee (f := 89) rfl ?_); refine goesM (some 26) rfl rfl Try.func89 (by kernel_rfl) rfl #[.slice Ao58 t263.length co58, .slice Ao57 t266.length co57] rfl (by rfl) ?_; (with_reducible refine (nats_Gcd.calls k _ _ t263 _ _ t266 t272 _ ?side1 ?side2 ?side3 ?side4 A22.out).mono ?_); (case side1 => exact ca ((Kd.R_reads' HO265.out).2.2)); (case side2 => exact (Kd.R_reads' HO265.out).2.1); (case side3 => exact ca ((Kd.R_reads' HO268.out).2.2)); (case side4 => exact (Kd.R_reads' HO268.out).2.1); rintro e w59 ⟨v273, rfl, ho0, hb⟩; refine ⟨_, rfl, ?_⟩; have n_ := mk5 (Kd.R_elder' (ra HO265.out) (Kd.R_base ho0) hb) (Kd.R_elder' (ra HO268.out) (Kd.R_base ho0) hb) (Kd.R_lower (Kd.R_new' (Kd.R_new' ho0 (Kd.R_lt (ra HO265.out))) (Kd.R_lt (ra HO268.out))) (below_size (bl1 HB GE262))) (blk_below (ba BK262.out) hb) (below_step (bl1 HB GE262) hb); clear HO265 HO268 BK262 HB; obtain ⟨HO265, HO268, HO274, BK262, HB⟩ := n_; (try clear hb); (try clear hb2); (try clear hk); (try clear hi); (try clear ho0); obtain ⟨Ao60, co60, eo60⟩ := Kd.R_slice HO274.out; subst eo60) | ((with_reducible refine gate_callee (f := 90) rfl ?_); refine goesM (some 28) rfl rfl Try.func90 (by kernel_rfl) rfl #[.slice Ao60 t272.length co60] rfl (by rfl) ?_; (with_reducible refine (ratio_one.calls _ _ t272 false _ ?side1 ?side2 A23.out).mono ?_); (case side1 => exact ca ((Kd.R_reads' HO274.out).2.2)); (case side2 => exact (Kd.R_reads' HO274.out).2.1); rintro e w' ⟨rfl, ⟨nd, rfl⟩⟩; refine ⟨_, rfl, ?_⟩; (try (rw [drewN_self w59]; generalize hq_ : World.drewN w59 _ = w59; have n0_ : Aside0 (Kd.R (Kd.int .u32) 99 w59 w.heap.size (fun k_ => some k_ ≠ (.slice Ao57 t266.length co57 : Value).ownBlock ∧ some k_ ≠ (.slice Ao60 t272.length co60 : Value).ownBlock) (.slice Ao58 t263.length co58) t263) := ⟨by rw [← hq_]; exact (ra (Kd.R_mono HO265.out (fun _ hk => ⟨hk.1.2, hk.2⟩)))⟩; have n1_ : Aside0 (Kd.R (Kd.int .u32) 99 w59 w.heap.size (fun k_ => some k_ ≠ (.slice Ao58 t263.length co58 : Value).ownBlock ∧ some k_ ≠ (.slice Ao60 t272.length co60 : Value).ownBlock) (.slice Ao57 t266.length co57) t266) := ⟨by rw [← hq_]; exact (ra (Kd.R_mono HO268.out (fun _ hk => ⟨hk.1.2, hk.2⟩)))⟩; have n2_ : Aside0 (Kd.R (Kd.int .u32) 99 w59 w.heap.size (fun k_ => some k_ ≠ (.slice Ao58 t263.length co58 : Value).ownBlock ∧ some k_ ≠ (.slice Ao57 t266.length co57 : Value).ownBlock) (.slice Ao60 t272.length co60) t272) := ⟨by rw [← hq_]; exact (ra (Kd.R_mono HO274.out (fun _ hk => ⟨hk.1.2, hk.2⟩)))⟩; have n3_ : Aside0 (w59.heap[gb262]? = some (.cells #[.bool false, .slice none 0 0, .slice none 0 0] 36 (0, 0))) := ⟨by rw [← hq_]; exact (ba BK262.out)⟩; have n4_ : Aside0 (Below w.heap.size w w59) := ⟨by rw [← hq_]; exact (bl1 HB GE262)⟩; clear HO265 HO268 HO274 BK262 HB hq_; have HO265 := n0_; have HO268 := n1_; have HO274 := n2_; have BK262 := n3_; have HB := n4_; clear n0_ n1_ n2_ n3_ n4_))) | ((with_reducible refine gate_callee (f := 91) rfl ?_); refine goesM (some 33) rfl rfl Try.func91 (by kernel_rfl) rfl #[.slice Ao58 t263.length co58, .slice Ao60 t272.length co60] rfl (by rfl) ?_; (with_reducible refine (nats_QuoRem.calls k _ _ t263 _ _ t272 t276 t277 _ ?side1 ?side2 ?side3 ?side4 A51.out).mono ?_); (case side1 => exact ca ((Kd.R_reads' HO265.out).2.2)); (case side2 => exact (Kd.R_reads' HO265.out).2.1); (case side3 => exact ca ((Kd.R_reads' HO274.out).2.2)); (case side4 => exact (Kd.R_reads' HO274.out).2.1); rintro e w61 ⟨v278, v280, rfl, ho0, ho1, hb⟩; refine ⟨_, rfl, ?_⟩; have n0_ := Aside0.mk (Kd.R_mono (Kd.R_told (Kd.R_told (Kd.R_old (ra HO265.out) hb) (Kd.R_base ho0)) (Kd.R_base ho1)) (fun _ h_ => h_.1)); have n1_ := Aside0.mk (Kd.R_mono (Kd.R_told (Kd.R_told (Kd.R_old (ra HO268.out) hb) (Kd.R_base ho0)) (Kd.R_base ho1)) (fun _ h_ => h_.1)); have n2_ := Aside0.mk (Kd.R_mono (Kd.R_told (Kd.R_told (Kd.R_old (ra HO274.out) hb) (Kd.R_base ho0)) (Kd.R_base ho1)) (fun _ h_ => h_.1)); have n3_ := Aside0.mk (Kd.R_lower (Kd.R_new' (Kd.R_new' (Kd.R_new' ho0 (Kd.R_lt (ra HO265.out))) (Kd.R_lt (ra HO268.out))) (Kd.R_lt (ra HO274.out))) (below_size (bl1 HB GE262))); have n4_ := Aside0.mk (Kd.R_lower (Kd.R_new' (Kd.R_new' (Kd.R_new' ho1 (Kd.R_lt (ra HO265.out))) (Kd.R_lt (ra HO268.out))) (Kd.R_lt (ra HO274.out))) (below_size (bl1 HB GE262))); have n5_ := Aside0.mk (blk_below (ba BK262.out) hb); have n6_ := Aside0.mk (below_step (bl1 HB GE262) hb); clear HO265; clear HO268; clear HO274; clear BK262; clear HB; have HO265 := n0_; have HO268 := n1_; have HO274 := n2_; have HO279 := n3_; have HO281 := n4_; have BK262 := n5_; have HB := n6_; clear n0_ n1_ n2_ n3_ n4_ n5_ n6_; (try clear hb); (try clear hb2); (try clear hk); (try clear hi); (try clear ho0); (try clear ho1)) | ((with_reducible refine gate_callee (f := 91) rfl ?_); refine goesM (some 39) rfl rfl Try.func91 (by kernel_rfl) rfl #[.slice Ao57 t266.length co57, .slice Ao60 t272.length co60] rfl (by rfl) ?_; (with_reducible refine (nats_QuoRem.calls k _ _ t266 _ _ t272 t282 t283 _ ?side1 ?side2 ?side3 ?side4 A52.out).mono ?_); (case side1 => exact ca ((Kd.R_reads' HO268.out).2.2)); (case side2 => exact (Kd.R_reads' HO268.out).2.1); (case side3 => exact ca ((Kd.R_reads' HO274.out).2.2)); (case side4 => exact (Kd.R_reads' HO274.out).2.1); rintro e w62 ⟨v284, v286, rfl, ho0, ho1, hb⟩; refine ⟨_, rfl, ?_⟩; have n0_ := Aside0.mk (Kd.R_mono (Kd.R_told (Kd.R_told (Kd.R_old (ra HO265.out) hb) (Kd.R_base ho0)) (Kd.R_base ho1)) (fun _ h_ => h_.1)); have n1_ := Aside0.mk (Kd.R_mono (Kd.R_told (Kd.R_told (Kd.R_old (ra HO268.out) hb) (Kd.R_base ho0)) (Kd.R_base ho1)) (fun _ h_ => h_.1)); have n2_ := Aside0.mk (Kd.R_mono (Kd.R_told (Kd.R_told (Kd.R_old (ra HO274.out) hb) (Kd.R_base ho0)) (Kd.R_base ho1)) (fun _ h_ => h_.1)); have n3_ := Aside0.mk (Kd.R_mono (Kd.R_told (Kd.R_told (Kd.R_old (ra HO279.out) hb) (Kd.R_base ho0)) (Kd.R_base ho1)) (fun _ h_ => h_.1)); have n4_ := Aside0.mk (Kd.R_mono (Kd.R_told (Kd.R_told (Kd.R_old (ra HO281.out) hb) (Kd.R_base ho0)) (Kd.R_base ho1)) (fun _ h_ => h_.1)); have n5_ := Aside0.mk (Kd.R_lower (Kd.R_new' (Kd.R_new' (Kd.R_new' (Kd.R_new' (Kd.R_new' ho0 (Kd.R_lt (ra HO265.out))) (Kd.R_lt (ra HO268.out))) (Kd.R_lt (ra HO274.out))) (Kd.R_lt (ra HO279.out))) (Kd.R_lt (ra HO281.out))) (below_size (bl1 HB GE262))); have n6_ := Aside0.mk (Kd.R_lower (Kd.R_new' (Kd.R_new' (Kd.R_new' (Kd.R_new' (Kd.R_new' ho1 (Kd.R_lt (ra HO265.out))) (Kd.R_lt (ra HO268.out))) (Kd.R_lt (ra HO274.out))) (Kd.R_lt (ra HO279.out))) (Kd.R_lt (ra HO281.out))) (below_size (bl1 HB GE262))); have n7_ := Aside0.mk (blk_below (ba BK262.out) hb); have n8_ := Aside0.mk (below_step (bl1 HB GE262) hb); clear HO265; clear HO268; clear HO274; clear HO279; clear HO281; clear BK262; clear HB; have HO265 := n0_; have HO268 := n1_; have HO274 := n2_; have HO279 := n3_; have HO281 := n4_; have HO285 := n5_; have HO287 := n6_; have BK262 := n7_; have HB := n8_; clear n0_ n1_ n2_ n3_ n4_ n5_ n6_ n7_ n8_; (try clear hb); (try clear hb2); (try clear hk); (try clear hi); (try clear ho0); (try clear ho1); obtain ⟨Ao63, co63, eo63⟩ := Kd.R_slice HO279.out; subst eo63; obtain ⟨hcz64_0, hcz64_1, hcz64_2, hfz64_0, hfz64_1, hfz64_2⟩ := blk3 BK262.out))
     refine bodyPost_ret (results_ct rfl _ _ gb262 36 #[.bool false, .slice none 0 0, .slice none 0 0] (0, 0) _ rfl (by exact bp BK262.out rfl) Try.underlying36 rfl (by kernel_rfl)) rfl ?_
     exact ⟨_, _, by first | rfl | simp [*], by first | exact Kd.R_nil _ _ _ _ _ | exact Kd.V_nil _ _ _ _ _, by first | exact Kd.R_nil _ _ _ _ _ | exact Kd.V_nil _ _ _ _ _, bl1 HB GE262⟩
    ·rw [if_neg c53] at H
     have c53b0 : decide (16 < (t276.length : Int)) = false := decide_eq_false c53
     have c53b1 : decide (16 < t276.length) = false := decide_eq_false (by omega)
     clear c53
     by_cases c65 : (t282.length : Int) > 16
     ·rw [if_pos c65] at H
      have c65b0 : decide (16 < (t282.length : Int)) = true := decide_eq_true c65
      have c65b1 : decide (16 < t282.length) = true := decide_eq_true (by omega)
      clear c65
      simp only [Option.some.injEq, Prod.mk.injEq] at H
      obtain ⟨rfl, rfl, rfl, rfl⟩ := H
      go_enter Try.func66, Try.ntmps66
      go_wp2_with (first | ((with_reducible refine gate_dst (N := 6) rfl ?_); (try (refine gate_guard (by rfl) ?_; dsimp only)); refine box_event ?hg (N := 6) ?hd (cs := #[.bool false, .slice none 0 0, .slice none 0 0]) (t := 36) ?hr ?_; (case hd => rfl); (case hg => rfl); (case hr => first | (go_simp; done) | (go_simp; rfl)); intro gb262 hg w66 hbox hb; have n_ := mk4 (below_step (bl HB) hb) (hbox) ((by rw [hg]; exact (below_size (bl HB)) : w.heap.size ≤ gb262)) ((by rw [hg]; exact (below_size (bl HB)) : w.heap.size ≤ gb262)); clear HB; obtain ⟨HB, BK262, GW262, GE262⟩ := n_; clear hb hbox hg) | ((with_reducible refine gate_callee (f := 64) rfl ?_); refine goesM (some 12) rfl rfl Try.func64 (by kernel_rfl) rfl #[.slice A1 l1.length c1] rfl (by rfl) ?_; (with_reducible refine (nats_Trim.calls k _ _ l1 t263 _ ?side1 ?side2 A4.out).mono ?_); (case side1 => exact ca (Kd.C_below HR1.out HB.out)); (case side2 => exact HC1.out); rintro e w67 ⟨v264, rfl, ho0, hb⟩; refine ⟨_, rfl, ?_⟩; have n_ := mk3 (Kd.R_lower ho0 (below_size (bl1 HB GE262))) (blk_below (ba BK262.out) hb) (below_step (bl1 HB GE262) hb); clear BK262 HB; obtain ⟨HO265, BK262, HB⟩ := n_; (try clear hb); (try clear hb2); (try clear hk); (try clear hi); (try clear ho0)) | ((with_reducible refine gate_callee (f := 64) rfl ?_); refine goesM (some 14) rfl rfl Try.func64 (by kernel_rfl) rfl #[.slice A2 l2.length c2] rfl (by rfl) ?_; (with_reducible refine (nats_Trim.calls k _ _ l2 t266 _ ?side1 ?side2 A5.out).mono ?_); (case side1 => exact ca (Kd.C_below HR2.out HB.out)); (case side2 => exact HC2.out); rintro e w68 ⟨v267, rfl, ho0, hb⟩; refine ⟨_, rfl, ?_⟩; have n_ := mk4 (Kd.R_elder' (ra HO265.out) (Kd.R_base ho0) hb) (Kd.R_lower (Kd.R_new' ho0 (Kd.R_lt (ra HO265.out))) (below_size (bl1 HB GE262))) (blk_below (ba BK262.out) hb) (below_step (bl1 HB GE262) hb); clear HO265 BK262 HB; obtain ⟨HO265, HO268, BK262, HB⟩ := n_; (try clear hb); (try clear hb2); (try clear hk); (try clear hi); (try clear ho0); obtain ⟨Ao69, co69, eo69⟩ := Kd.R_slice HO268.out; subst eo69; obtain ⟨Ao70, co70, eo70⟩ := Kd.R_slice HO265.out; subst eo70) | ((with_reducible refine gate_callee (f := 89) rfl ?_); refine goesM (some 26) rfl rfl Try.func89 (by kernel_rfl) rfl #[.slice Ao70 t263.length co70, .slice Ao69 t266.length co69] rfl (by rfl) ?_; (with_reducible refine (nats_Gcd.calls k _ _ t263 _ _ t266 t272 _ ?side1 ?side2 ?side3 ?side4 A22.out).mono ?_); (case side1 => exact ca ((Kd.R_reads' HO265.out).2.2)); (case side2 => exact (Kd.R_reads' HO265.out).2.1); (case side3 => exact ca ((Kd.R_reads' HO268.out).2.2)); (case side4 => exact (Kd.R_reads' HO268.out).2.1); rintro e w71 ⟨v273, rfl, ho0, hb⟩; refine ⟨_, rfl, ?_⟩; have n_ := mk5 (Kd.R_elder' (ra HO265.out) (Kd.R_base ho0) hb) (Kd.R_elder' (ra HO268.out) (Kd.R_base ho0) hb) (Kd.R_lower (Kd.R_new' (Kd.R_new' ho0 (Kd.R_lt (ra HO265.out))) (Kd.R_lt (ra HO268.out))) (below_size (bl1 HB GE262))) (blk_below (ba BK262.out) hb) (below_step (bl1 HB GE262) hb); clear HO265 HO268 BK262 HB; obtain ⟨HO265, HO268, HO274, BK262, HB⟩ := n_; (try clear hb); (try clear hb2); (try clear hk); (try clear hi); (try clear ho0); obtain ⟨Ao72, co72, eo72⟩ := Kd.R_slice HO274.out; subst eo72) | ((with_reducible refine gate_callee (f := 90) rfl ?_); refine goesM (some 28) rfl rfl Try.func90 (by kernel_rfl) rfl #[.slice Ao72 t272.length co72] rfl (by rfl) ?_; (with_reducible refine (ratio_one.calls _ _ t272 false _ ?side1 ?side2 A23.out).mono ?_); (case side1 => exact ca ((Kd.R_reads' HO274.out).2.2)); (case side2 => exact (Kd.R_reads' HO274.out).2.1); rintro e w' ⟨rfl, ⟨nd, rfl⟩⟩; refine ⟨_, rfl, ?_⟩; (try (rw [drewN_self w71]; generalize hq_ : World.drewN w71 _ = w71; have n0_ : Aside0 (Kd.R (Kd.int .u32) 99 w71 w.heap.size (fun k_ => some k_ ≠ (.slice Ao69 t266.length co69 : Value).ownBlock ∧ some k_ ≠ (.slice Ao72 t272.length co72 : Value).ownBlock) (.slice Ao70 t263.length co70) t263) := ⟨by rw [← hq_]; exact (ra (Kd.R_mono HO265.out (fun _ hk => ⟨hk.1.2, hk.2⟩)))⟩; have n1_ : Aside0 (Kd.R (Kd.int .u32) 99 w71 w.heap.size (fun k_ => some k_ ≠ (.slice Ao70 t263.length co70 : Value).ownBlock ∧ some k_ ≠ (.slice Ao72 t272.length co72 : Value).ownBlock) (.slice Ao69 t266.length co69) t266) := ⟨by rw [← hq_]; exact (ra (Kd.R_mono HO268.out (fun _ hk => ⟨hk.1.2, hk.2⟩)))⟩; have n2_ : Aside0 (Kd.R (Kd.int .u32) 99 w71 w.heap.size (fun k_ => some k_ ≠ (.slice Ao70 t263.length co70 : Value).ownBlock ∧ some k_ ≠ (.slice Ao69 t266.length co69 : Value).ownBlock) (.slice Ao72 t272.length co72) t272) := ⟨by rw [← hq_]; exact (ra (Kd.R_mono HO274.out (fun _ hk => ⟨hk.1.2, hk.2⟩)))⟩; have n3_ : Aside0 (w71.heap[gb262]? = some (.cells #[.bool false, .slice none 0 0, .slice none 0 0] 36 (0, 0))) := ⟨by rw [← hq_]; exact (ba BK262.out)⟩; have n4_ : Aside0 (Below w.heap.size w w71) := ⟨by rw [← hq_]; exact (bl1 HB GE262)⟩; clear HO265 HO268 HO274 BK262 HB hq_; have HO265 := n0_; have HO268 := n1_; have HO274 := n2_; have BK262 := n3_; have HB := n4_; clear n0_ n1_ n2_ n3_ n4_))) | ((with_reducible refine gate_callee (f := 91) rfl ?_); refine goesM (some 33) rfl rfl Try.func91 (by kernel_rfl) rfl #[.slice Ao70 t263.length co70, .slice Ao72 t272.length co72] rfl (by rfl) ?_; (with_reducible refine (nats_QuoRem.calls k _ _ t263 _ _ t272 t276 t277 _ ?side1 ?side2 ?side3 ?side4 A51.out).mono ?_); (case side1 => exact ca ((Kd.R_reads' HO265.out).2.2)); (case side2 => exact (Kd.R_reads' HO265.out).2.1); (case side3 => exact ca ((Kd.R_reads' HO274.out).2.2)); (case side4 => exact (Kd.R_reads' HO274.out).2.1); rintro e w73 ⟨v278, v280, rfl, ho0, ho1, hb⟩; refine ⟨_, rfl, ?_⟩; have n0_ := Aside0.mk (Kd.R_mono (Kd.R_told (Kd.R_told (Kd.R_old (ra HO265.out) hb) (Kd.R_base ho0)) (Kd.R_base ho1)) (fun _ h_ => h_.1)); have n1_ := Aside0.mk (Kd.R_mono (Kd.R_told (Kd.R_told (Kd.R_old (ra HO268.out) hb) (Kd.R_base ho0)) (Kd.R_base ho1)) (fun _ h_ => h_.1)); have n2_ := Aside0.mk (Kd.R_mono (Kd.R_told (Kd.R_told (Kd.R_old (ra HO274.out) hb) (Kd.R_base ho0)) (Kd.R_base ho1)) (fun _ h_ => h_.1)); have n3_ := Aside0.mk (Kd.R_lower (Kd.R_new' (Kd.R_new' (Kd.R_new' ho0 (Kd.R_lt (ra HO265.out))) (Kd.R_lt (ra HO268.out))) (Kd.R_lt (ra HO274.out))) (below_size (bl1 HB GE262))); have n4_ := Aside0.mk (Kd.R_lower (Kd.R_new' (Kd.R_new' (Kd.R_new' ho1 (Kd.R_lt (ra HO265.out))) (Kd.R_lt (ra HO268.out))) (Kd.R_lt (ra HO274.out))) (below_size (bl1 HB GE262))); have n5_ := Aside0.mk (blk_below (ba BK262.out) hb); have n6_ := Aside0.mk (below_step (bl1 HB GE262) hb); clear HO265; clear HO268; clear HO274; clear BK262; clear HB; have HO265 := n0_; have HO268 := n1_; have HO274 := n2_; have HO279 := n3_; have HO281 := n4_; have BK262 := n5_; have HB := n6_; clear n0_ n1_ n2_ n3_ n4_ n5_ n6_; (try clear hb); (try clear hb2); (try clear hk); (try clear hi); (try clear ho0); (try clear ho1)) | ((with_reducible refine gate_callee (f := 91) rfl ?_); refine goesM (some 39) rfl rfl Try.func91 (by kernel_rfl) rfl #[.slice Ao69 t266.length co69, .slice Ao72 t272.length co72] rfl (by rfl) ?_; (with_reducible refine (nats_QuoRem.calls k _ _ t266 _ _ t272 t282 t283 _ ?side1 ?side2 ?side3 ?side4 A52.out).mono ?_); (case side1 => exact ca ((Kd.R_reads' HO268.out).2.2)); (case side2 => exact (Kd.R_reads' HO268.out).2.1); (case side3 => exact ca ((Kd.R_reads' HO274.out).2.2)); (case side4 => exact (Kd.R_reads' HO274.out).2.1); rintro e w74 ⟨v284, v286, rfl, ho0, ho1, hb⟩; refine ⟨_, rfl, ?_⟩; have n0_ := Aside0.mk (Kd.R_mono (Kd.R_told (Kd.R_told (Kd.R_old (ra HO265.out) hb) (Kd.R_base ho0)) (Kd.R_base ho1)) (fun _ h_ => h_.1)); have n1_ := Aside0.mk (Kd.R_mono (Kd.R_told (Kd.R_told (Kd.R_old (ra HO268.out) hb) (Kd.R_base ho0)) (Kd.R_base ho1)) (fun _ h_ => h_.1)); have n2_ := Aside0.mk (Kd.R_mono (Kd.R_told (Kd.R_told (Kd.R_old (ra HO274.out) hb) (Kd.R_base ho0)) (Kd.R_base ho1)) (fun _ h_ => h_.1)); have n3_ := Aside0.mk (Kd.R_mono (Kd.R_told (Kd.R_told (Kd.R_old (ra HO279.out) hb) (Kd.R_base ho0)) (Kd.R_base ho1)) (fun _ h_ => h_.1)); have n4_ := Aside0.mk (Kd.R_mono (Kd.R_told (Kd.R_told (Kd.R_old (ra HO281.out) hb) (Kd.R_base ho0)) (Kd.R_base ho1)) (fun _ h_ => h_.1)); have n5_ := Aside0.mk (Kd.R_lower (Kd.R_new' (Kd.R_new' (Kd.R_new' (Kd.R_new' (Kd.R_new' ho0 (Kd.R_lt (ra HO265.out))) (Kd.R_lt (ra HO268.out))) (Kd.R_lt (ra HO274.out))) (Kd.R_lt (ra HO279.out))) (Kd.R_lt (ra HO281.out))) (below_size (bl1 HB GE262))); have n6_ := Aside0.mk (Kd.R_lower (Kd.R_new' (Kd.R_new' (Kd.R_new' (Kd.R_new' (Kd.R_new' ho1 (Kd.R_lt (ra HO265.out))) (Kd.R_lt (ra HO268.out))) (Kd.R_lt (ra HO274.out))) (Kd.R_lt (ra HO279.out))) (Kd.R_lt (ra HO281.out))) (below_size (bl1 HB GE262))); have n7_ := Aside0.mk (blk_below (ba BK262.out) hb); have n8_ := Aside0.mk (below_step (bl1 HB GE262) hb); clear HO265; clear HO268; clear HO274; clear HO279; clear HO281; clear BK262; clear HB; have HO265 := n0_; have HO268 := n1_; have HO274 := n2_; have HO279 := n3_; have HO281 := n4_; have HO285 := n5_; have HO287 := n6_; have BK262 := n7_; have HB := n8_; clear n0_ n1_ n2_ n3_ n4_ n5_ n6_ n7_ n8_; (try clear hb); (try clear hb2); (try clear hk); (try clear hi); (try clear ho0); (try clear ho1); obtain ⟨Ao75, co75, eo75⟩ := Kd.R_slice HO279.out; subst eo75; obtain ⟨Ao76, co76, eo76⟩ := Kd.R_slice HO285.out; subst eo76; obtain ⟨hcz77_0, hcz77_1, hcz77_2, hfz77_0, hfz77_1, hfz77_2⟩ := blk3 BK262.out))
      refine bodyPost_ret (results_ct rfl _ _ gb262 36 #[.bool false, .slice none 0 0, .slice none 0 0] (0, 0) _ rfl (by exact bp BK262.out rfl) Try.underlying36 rfl (by kernel_rfl)) rfl ?_
      exact ⟨_, _, by first | rfl | simp [*], by first | exact Kd.R_nil _ _ _ _ _ | exact Kd.V_nil _ _ _ _ _, by first | exact Kd.R_nil _ _ _ _ _ | exact Kd.V_nil _ _ _ _ _, bl1 HB GE262⟩
     ·rw [if_neg c65] at H
      have c65b0 : decide (16 < (t282.length : Int)) = false := decide_eq_false c65
      have c65b1 : decide (16 < t282.length) = false := decide_eq_false (by omega)
      clear c65
      simp only [Option.some.injEq, Prod.mk.injEq] at H
      obtain ⟨rfl, rfl, rfl, rfl⟩ := H
      go_enter Try.func66, Try.ntmps66
      go_wp2_with (first | ((with_reducible refine gate_dst (N := 6) rfl ?_); (try (refine gate_guard (by rfl) ?_; dsimp only)); refine box_event ?hg (N := 6) ?hd (cs := #[.bool false, .slice none 0 0, .slice none 0 0]) (t := 36) ?hr ?_; (case hd => rfl); (case hg => rfl); (case hr => first | (go_simp; done) | (go_simp; rfl)); intro gb262 hg w78 hbox hb; have n_ := mk4 (below_step (bl HB) hb) (hbox) ((by rw [hg]; exact (below_size (bl HB)) : w.heap.size ≤ gb262)) ((by rw [hg]; exact (below_size (bl HB)) : w.heap.size ≤ gb262)); clear HB; obtain ⟨HB, BK262, GW262, GE262⟩ := n_; clear hb hbox hg) | ((with_reducible refine gate_callee (f := 64) rfl ?_); refine goesM (some 12) rfl rfl Try.func64 (by kernel_rfl) rfl #[.slice A1 l1.length c1] rfl (by rfl) ?_; (with_reducible refine (nats_Trim.calls k _ _ l1 t263 _ ?side1 ?side2 A4.out).mono ?_); (case side1 => exact ca (Kd.C_below HR1.out HB.out)); (case side2 => exact HC1.out); rintro e w79 ⟨v264, rfl, ho0, hb⟩; refine ⟨_, rfl, ?_⟩; have n_ := mk3 (Kd.R_lower ho0 (below_size (bl1 HB GE262))) (blk_below (ba BK262.out) hb) (below_step (bl1 HB GE262) hb); clear BK262 HB; obtain ⟨HO265, BK262, HB⟩ := n_; (try clear hb); (try clear hb2); (try clear hk); (try clear hi); (try clear ho0)) | ((with_reducible refine gate_callee (f := 64) rfl ?_); refine goesM (some 14) rfl rfl Try.func64 (by kernel_rfl) rfl #[.slice A2 l2.length c2] rfl (by rfl) ?_; (with_reducible refine (nats_Trim.calls k _ _ l2 t266 _ ?side1 ?side2 A5.out).mono ?_); (case side1 => exact ca (Kd.C_below HR2.out HB.out)); (case side2 => exact HC2.out); rintro e w80 ⟨v267, rfl, ho0, hb⟩; refine ⟨_, rfl, ?_⟩; have n_ := mk4 (Kd.R_elder' (ra HO265.out) (Kd.R_base ho0) hb) (Kd.R_lower (Kd.R_new' ho0 (Kd.R_lt (ra HO265.out))) (below_size (bl1 HB GE262))) (blk_below (ba BK262.out) hb) (below_step (bl1 HB GE262) hb); clear HO265 BK262 HB; obtain ⟨HO265, HO268, BK262, HB⟩ := n_; (try clear hb); (try clear hb2); (try clear hk); (try clear hi); (try clear ho0); obtain ⟨Ao81, co81, eo81⟩ := Kd.R_slice HO268.out; subst eo81; obtain ⟨Ao82, co82, eo82⟩ := Kd.R_slice HO265.out; subst eo82) | ((with_reducible refine gate_callee (f := 89) rfl ?_); refine goesM (some 26) rfl rfl Try.func89 (by kernel_rfl) rfl #[.slice Ao82 t263.length co82, .slice Ao81 t266.length co81] rfl (by rfl) ?_; (with_reducible refine (nats_Gcd.calls k _ _ t263 _ _ t266 t272 _ ?side1 ?side2 ?side3 ?side4 A22.out).mono ?_); (case side1 => exact ca ((Kd.R_reads' HO265.out).2.2)); (case side2 => exact (Kd.R_reads' HO265.out).2.1); (case side3 => exact ca ((Kd.R_reads' HO268.out).2.2)); (case side4 => exact (Kd.R_reads' HO268.out).2.1); rintro e w83 ⟨v273, rfl, ho0, hb⟩; refine ⟨_, rfl, ?_⟩; have n_ := mk5 (Kd.R_elder' (ra HO265.out) (Kd.R_base ho0) hb) (Kd.R_elder' (ra HO268.out) (Kd.R_base ho0) hb) (Kd.R_lower (Kd.R_new' (Kd.R_new' ho0 (Kd.R_lt (ra HO265.out))) (Kd.R_lt (ra HO268.out))) (below_size (bl1 HB GE262))) (blk_below (ba BK262.out) hb) (below_step (bl1 HB GE262) hb); clear HO265 HO268 BK262 HB; obtain ⟨HO265, HO268, HO274, BK262, HB⟩ := n_; (try clear hb); (try clear hb2); (try clear hk); (try clear hi); (try clear ho0); obtain ⟨Ao84, co84, eo84⟩ := Kd.R_slice HO274.out; subst eo84) | ((with_reducible refine gate_callee (f := 90) rfl ?_); refine goesM (some 28) rfl rfl Try.func90 (by kernel_rfl) rfl #[.slice Ao84 t272.length co84] rfl (by rfl) ?_; (with_reducible refine (ratio_one.calls _ _ t272 false _ ?side1 ?side2 A23.out).mono ?_); (case side1 => exact ca ((Kd.R_reads' HO274.out).2.2)); (case side2 => exact (Kd.R_reads' HO274.out).2.1); rintro e w' ⟨rfl, ⟨nd, rfl⟩⟩; refine ⟨_, rfl, ?_⟩; (try (rw [drewN_self w83]; generalize hq_ : World.drewN w83 _ = w83; have n0_ : Aside0 (Kd.R (Kd.int .u32) 99 w83 w.heap.size (fun k_ => some k_ ≠ (.slice Ao81 t266.length co81 : Value).ownBlock ∧ some k_ ≠ (.slice Ao84 t272.length co84 : Value).ownBlock) (.slice Ao82 t263.length co82) t263) := ⟨by rw [← hq_]; exact (ra (Kd.R_mono HO265.out (fun _ hk => ⟨hk.1.2, hk.2⟩)))⟩; have n1_ : Aside0 (Kd.R (Kd.int .u32) 99 w83 w.heap.size (fun k_ => some k_ ≠ (.slice Ao82 t263.length co82 : Value).ownBlock ∧ some k_ ≠ (.slice Ao84 t272.length co84 : Value).ownBlock) (.slice Ao81 t266.length co81) t266) := ⟨by rw [← hq_]; exact (ra (Kd.R_mono HO268.out (fun _ hk => ⟨hk.1.2, hk.2⟩)))⟩; have n2_ : Aside0 (Kd.R (Kd.int .u32) 99 w83 w.heap.size (fun k_ => some k_ ≠ (.slice Ao82 t263.length co82 : Value).ownBlock ∧ some k_ ≠ (.slice Ao81 t266.length co81 : Value).ownBlock) (.slice Ao84 t272.length co84) t272) := ⟨by rw [← hq_]; exact (ra (Kd.R_mono HO274.out (fun _ hk => ⟨hk.1.2, hk.2⟩)))⟩; have n3_ : Aside0 (w83.heap[gb262]? = some (.cells #[.bool false, .slice none 0 0, .slice none 0 0] 36 (0, 0))) := ⟨by rw [← hq_]; exact (ba BK262.out)⟩; have n4_ : Aside0 (Below w.heap.size w w83) := ⟨by rw [← hq_]; exact (bl1 HB GE262)⟩; clear HO265 HO268 HO274 BK262 HB hq_; have HO265 := n0_; have HO268 := n1_; have HO274 := n2_; have BK262 := n3_; have HB := n4_; clear n0_ n1_ n2_ n3_ n4_))) | ((with_reducible refine gate_callee (f := 91) rfl ?_); refine goesM (some 33) rfl rfl Try.func91 (by kernel_rfl) rfl #[.slice Ao82 t263.length co82, .slice Ao84 t272.length co84] rfl (by rfl) ?_; (with_reducible refine (nats_QuoRem.calls k _ _ t263 _ _ t272 t276 t277 _ ?side1 ?side2 ?side3 ?side4 A51.out).mono ?_); (case side1 => exact ca ((Kd.R_reads' HO265.out).2.2)); (case side2 => exact (Kd.R_reads' HO265.out).2.1); (case side3 => exact ca ((Kd.R_reads' HO274.out).2.2)); (case side4 => exact (Kd.R_reads' HO274.out).2.1); rintro e w85 ⟨v278, v280, rfl, ho0, ho1, hb⟩; refine ⟨_, rfl, ?_⟩; have n0_ := Aside0.mk (Kd.R_mono (Kd.R_told (Kd.R_told (Kd.R_old (ra HO265.out) hb) (Kd.R_base ho0)) (Kd.R_base ho1)) (fun _ h_ => h_.1)); have n1_ := Aside0.mk (Kd.R_mono (Kd.R_told (Kd.R_told (Kd.R_old (ra HO268.out) hb) (Kd.R_base ho0)) (Kd.R_base ho1)) (fun _ h_ => h_.1)); have n2_ := Aside0.mk (Kd.R_mono (Kd.R_told (Kd.R_told (Kd.R_old (ra HO274.out) hb) (Kd.R_base ho0)) (Kd.R_base ho1)) (fun _ h_ => h_.1)); have n3_ := Aside0.mk (Kd.R_lower (Kd.R_new' (Kd.R_new' (Kd.R_new' ho0 (Kd.R_lt (ra HO265.out))) (Kd.R_lt (ra HO268.out))) (Kd.R_lt (ra HO274.out))) (below_size (bl1 HB GE262))); have n4_ := Aside0.mk (Kd.R_lower (Kd.R_new' (Kd.R_new' (Kd.R_new' ho1 (Kd.R_lt (ra HO265.out))) (Kd.R_lt (ra HO268.out))) (Kd.R_lt (ra HO274.out))) (below_size (bl1 HB GE262))); have n5_ := Aside0.mk (blk_below (ba BK262.out) hb); have n6_ := Aside0.mk (below_step (bl1 HB GE262) hb); clear HO265; clear HO268; clear HO274; clear BK262; clear HB; have HO265 := n0_; have HO268 := n1_; have HO274 := n2_; have HO279 := n3_; have HO281 := n4_; have BK262 := n5_; have HB := n6_; clear n0_ n1_ n2_ n3_ n4_ n5_ n6_; (try clear hb); (try clear hb2); (try clear hk); (try clear hi); (try clear ho0); (try clear ho1)) | ((with_reducible refine gate_callee (f := 91) rfl ?_); refine goesM (some 39) rfl rfl Try.func91 (by kernel_rfl) rfl #[.slice Ao81 t266.length co81, .slice Ao84 t272.length co84] rfl (by rfl) ?_; (with_reducible refine (nats_QuoRem.calls k _ _ t266 _ _ t272 t282 t283 _ ?side1 ?side2 ?side3 ?side4 A52.out).mono ?_); (case side1 => exact ca ((Kd.R_reads' HO268.out).2.2)); (case side2 => exact (Kd.R_reads' HO268.out).2.1); (case side3 => exact ca ((Kd.R_reads' HO274.out).2.2)); (case side4 => exact (Kd.R_reads' HO274.out).2.1); rintro e w86 ⟨v284, v286, rfl, ho0, ho1, hb⟩; refine ⟨_, rfl, ?_⟩; have n0_ := Aside0.mk (Kd.R_mono (Kd.R_told (Kd.R_told (Kd.R_old (ra HO265.out) hb) (Kd.R_base ho0)) (Kd.R_base ho1)) (fun _ h_ => h_.1)); have n1_ := Aside0.mk (Kd.R_mono (Kd.R_told (Kd.R_told (Kd.R_old (ra HO268.out) hb) (Kd.R_base ho0)) (Kd.R_base ho1)) (fun _ h_ => h_.1)); have n2_ := Aside0.mk (Kd.R_mono (Kd.R_told (Kd.R_told (Kd.R_old (ra HO274.out) hb) (Kd.R_base ho0)) (Kd.R_base ho1)) (fun _ h_ => h_.1)); have n3_ := Aside0.mk (Kd.R_mono (Kd.R_told (Kd.R_told (Kd.R_old (ra HO279.out) hb) (Kd.R_base ho0)) (Kd.R_base ho1)) (fun _ h_ => h_.1)); have n4_ := Aside0.mk (Kd.R_mono (Kd.R_told (Kd.R_told (Kd.R_old (ra HO281.out) hb) (Kd.R_base ho0)) (Kd.R_base ho1)) (fun _ h_ => h_.1)); have n5_ := Aside0.mk (Kd.R_lower (Kd.R_new' (Kd.R_new' (Kd.R_new' (Kd.R_new' (Kd.R_new' ho0 (Kd.R_lt (ra HO265.out))) (Kd.R_lt (ra HO268.out))) (Kd.R_lt (ra HO274.out))) (Kd.R_lt (ra HO279.out))) (Kd.R_lt (ra HO281.out))) (below_size (bl1 HB GE262))); have n6_ := Aside0.mk (Kd.R_lower (Kd.R_new' (Kd.R_new' (Kd.R_new' (Kd.R_new' (Kd.R_new' ho1 (Kd.R_lt (ra HO265.out))) (Kd.R_lt (ra HO268.out))) (Kd.R_lt (ra HO274.out))) (Kd.R_lt (ra HO279.out))) (Kd.R_lt (ra HO281.out))) (below_size (bl1 HB GE262))); have n7_ := Aside0.mk (blk_below (ba BK262.out) hb); have n8_ := Aside0.mk (below_step (bl1 HB GE262) hb); clear HO265; clear HO268; clear HO274; clear HO279; clear HO281; clear BK262; clear HB; have HO265 := n0_; have HO268 := n1_; have HO274 := n2_; have HO279 := n3_; have HO281 := n4_; have HO285 := n5_; have HO287 := n6_; have BK262 := n7_; have HB := n8_; clear n0_ n1_ n2_ n3_ n4_ n5_ n6_ n7_ n8_; (try clear hb); (try clear hb2); (try clear hk); (try clear hi); (try clear ho0); (try clear ho1); obtain ⟨Ao87, co87, eo87⟩ := Kd.R_slice HO279.out; subst eo87; obtain ⟨Ao88, co88, eo88⟩ := Kd.R_slice HO285.out; subst eo88; obtain ⟨hcz89_0, hcz89_1, hcz89_2, hfz89_0, hfz89_1, hfz89_2⟩ := blk3 BK262.out))
      refine bodyPost_ret (results_ct rfl _ _ gb262 36 #[.bool a0, .slice Ao87 t276.length co87, .slice Ao88 t282.length co88] (0, 0) _ rfl (by exact bp BK262.out rfl) Try.underlying36 rfl (by kernel_rfl)) rfl ?_
      exact ⟨_, _, by first | rfl | simp [*], ra (Kd.R_mono (Kd.R_far (p := ⟨gb262, 2, none⟩) (Kd.R_far (p := ⟨gb262, 1, none⟩) (Kd.R_far (p := ⟨gb262, 0, none⟩) (Kd.R_types HO279.out BK262.out (by decide)) (fun _ hk => hk.2) (.bool a0)) (fun _ hk => hk.2) (.slice Ao87 t276.length co87)) (fun _ hk => hk.2) (.slice Ao88 t282.length co88)) (fun _ hk => by first | exact hk.1.1.2 | exact hk.1.1)), ra (Kd.R_mono (Kd.R_far (p := ⟨gb262, 2, none⟩) (Kd.R_far (p := ⟨gb262, 1, none⟩) (Kd.R_far (p := ⟨gb262, 0, none⟩) (Kd.R_types HO285.out BK262.out (by decide)) (fun _ hk => hk.2) (.bool a0)) (fun _ hk => hk.2) (.slice Ao87 t276.length co87)) (fun _ hk => hk.2) (.slice Ao88 t282.length co88)) (fun _ hk => by first | exact hk.1.1.2 | exact hk.1.1)), bl1 HB GE262⟩
end Go.Proofs.Ytjppanekddljbaa.Pr
/- What the kit's print wrote for these functions, taken together by wip/pick.py: each function's Lean function and that the Go code comes to it. -/
namespace Go.Proofs.Ytjppanekddljbaa.Pr
open Go.RowKit Go.Proofs.YtjppanekddljbaaW.PrintWords Go.Proofs.YtjppanekddljbaaW.PrintLast Go.Proofs.YtjppanekddljbaaW.PrintMore
open Go.Proofs.Ytjppanekddljbaa.H
attribute [local go_sem] max2_int min2_int max_two min_two max_three min_three max_four min_four
def ratio_Div.f (k : Nat) (a0_0 : Bool) (l0_1 : List Int) (l0_2 : List Int) (a1_0 : Bool) (l1_1 : List Int) (l1_2 : List Int) : Option (Bool × List Int × List Int × Int) := (ratio_forms.f k (([(⟨a0_0, l0_1, l0_2⟩ : S36), (⟨a1_0, l1_1, l1_2⟩ : S36)] : List (S36)))).bind fun t312 => (if t312 = true then (if (l1_1.length : Int) = 0 then (some (false, ([] : List Int), ([] : List Int), 10)) else ((nats_Mul.f k l0_1 l1_2).bind fun t313 => ((nats_Mul.f k l0_2 l1_1).bind fun t316 => ((ratio_Make.f k (a0_0 != a1_0) t313 t316).bind fun bt319 => (some (bt319.1, bt319.2.1, bt319.2.2.1, bt319.2.2.2)))))) else (some (false, ([] : List Int), ([] : List Int), 20)))
def ratio_Div.T5 : Bool × List (List Nat × List Nat) := (true, [([], []), ([0], [0]), ([], []), ([2], [2]), ([1, 3], [1, 3]), ([], []), ([5], [5]), ([], []), ([7], [7]), ([6, 8], [6, 8]), ([], []), ([10], [10]), ([], []), ([12], [12]), ([11, 13, 9], [11, 13]), ([4, 9, 14, 14], [4, 9, 14]), ([15], [15]), ([15], [15]), ([16, 15, 0, 1, 2, 3, 4, 5, 6, 7, 8, 9, 10, 11, 12, 13, 14, 15, 16, 17], [16]), ([17, 18, 0, 1, 2, 3, 4, 5, 6, 7, 8, 9, 10, 11, 12, 13, 14, 15, 16, 17, 18], [17])])
def ratio_Div.B5 : List Nat := [0, 1, 0, 4, 15, 0, 32, 0, 128, 480, 0, 1024, 0, 4096, 16352, 32767, 65535, 65535, 262143, 524287]
theorem ratio_Div.tab5 : rtab .any (opsOf Try.f33 5) = ratio_Div.T5 := by kernel_rfl
theorem ratio_Div.bits5 : waitsOk ratio_Div.T5.2 ratio_Div.B5 = true := by kernel_rfl
set_option maxHeartbeats 8000000 in
set_option maxRecDepth 100000 in
theorem ratio_Div.calls (k : Nat) (a0_0 : Bool) (P0_1_ : Nat → Prop) (A0_1 : Option Addr) (c0_1 : Nat) (l0_1 : List Int) (P0_2_ : Nat → Prop) (A0_2 : Option Addr) (c0_2 : Nat) (l0_2 : List Int) (a1_0 : Bool) (P1_1_ : Nat → Prop) (A1_1 : Option Addr) (c1_1 : Nat) (l1_1 : List Int) (P1_2_ : Nat → Prop) (A1_2 : Option Addr) (c1_2 : Nat) (l1_2 : List Int) (r1 : Bool) (r2 : List Int) (r3 : List Int) (r4 : Int) (w : World) (hs0_1 : Kd.V (Kd.int .u32) 99 w w.heap.size (fun k_ => P0_1_ k_) (.slice A0_1 l0_1.length c0_1) l0_1) (hs0_2 : Kd.V (Kd.int .u32) 99 w w.heap.size (fun k_ => P0_2_ k_) (.slice A0_2 l0_2.length c0_2) l0_2) (hs1_1 : Kd.V (Kd.int .u32) 99 w w.heap.size (fun k_ => P1_1_ k_) (.slice A1_1 l1_1.length c1_1) l1_1) (hs1_2 : Kd.V (Kd.int .u32) 99 w w.heap.size (fun k_ => P1_2_ k_) (.slice A1_2 l1_2.length c1_2) l1_2) (h : ratio_Div.f k a0_0 l0_1 l0_2 a1_0 l1_1 l1_2 = some (r1, r2, r3, r4)) :
  Calls Try.prog 33 #[.agg #[.bool a0_0, .slice A0_1 l0_1.length c0_1, .slice A0_2 l0_2.length c0_2], .agg #[.bool a1_0, .slice A1_1 l1_1.length c1_1, .slice A1_2 l1_2.length c1_2]] w fun e w' => ∃ v1_ v2_ : Value, e = .returned (.tuple #[.agg #[.bool r1, v1_, v2_], .int .i64 r4]) ∧ Kd.R (Kd.int .u32) 99 w' w.heap.size (fun k_ => (w.heap.size ≤ k_) ∧ some k_ ≠ (v2_ : Value).ownBlock) v1_ r2 ∧ Kd.R (Kd.int .u32) 99 w' w.heap.size (fun k_ => (w.heap.size ≤ k_) ∧ some k_ ≠ (v1_ : Value).ownBlock) v2_ r3 ∧ Below w.heap.size w w' := by
 have hu36 := Try.underlying36
 have HO0_1 := Aside0.mk (show Kd.V (Kd.int .u32) 99 w w.heap.size (fun k_ => ((P0_1_ k_ ∨ P0_2_ k_ ∨ P1_1_ k_ ∨ P1_2_ k_) ∨ w.heap.size ≤ k_)) (.slice A0_1 l0_1.length c0_1) l0_1 from Kd.V_mono hs0_1 (fun k_ hk => .inl (.inl hk)))
 have HO0_2 := Aside0.mk (show Kd.V (Kd.int .u32) 99 w w.heap.size (fun k_ => ((P0_1_ k_ ∨ P0_2_ k_ ∨ P1_1_ k_ ∨ P1_2_ k_) ∨ w.heap.size ≤ k_)) (.slice A0_2 l0_2.length c0_2) l0_2 from Kd.V_mono hs0_2 (fun k_ hk => .inl (.inr (.inl hk))))
 have HO1_1 := Aside0.mk (show Kd.V (Kd.int .u32) 99 w w.heap.size (fun k_ => ((P0_1_ k_ ∨ P0_2_ k_ ∨ P1_1_ k_ ∨ P1_2_ k_) ∨ w.heap.size ≤ k_)) (.slice A1_1 l1_1.length c1_1) l1_1 from Kd.V_mono hs1_1 (fun k_ hk => .inl (.inr (.inr (.inl hk)))))
 have HO1_2 := Aside0.mk (show Kd.V (Kd.int .u32) 99 w w.heap.size (fun k_ => ((P0_1_ k_ ∨ P0_2_ k_ ∨ P1_1_ k_ ∨ P1_2_ k_) ∨ w.heap.size ≤ k_)) (.slice A1_2 l1_2.length c1_2) l1_2 from Kd.V_mono hs1_2 (fun k_ hk => .inl (.inr (.inr (.inr hk)))))
 have HB := Aside0.mk (Below.refl w.heap.size w)
 have H : ((ratio_forms.f k (([(⟨a0_0, l0_1, l0_2⟩ : S36), (⟨a1_0, l1_1, l1_2⟩ : S36)] : List (S36)))).bind fun t312 => (if t312 = true then (if (l1_1.length : Int) = 0 then (some (false, ([] : List Int), ([] : List Int), 10)) else ((nats_Mul.f k l0_1 l1_2).bind fun t313 => ((nats_Mul.f k l0_2 l1_1).bind fun t316 => ((ratio_Make.f k (a0_0 != a1_0) t313 t316).bind fun bt319 => (some (bt319.1, bt319.2.1, bt319.2.2.1, bt319.2.2.2)))))) else (some (false, ([] : List Int), ([] : List Int), 20)))) = some (r1, r2, r3, r4) := h
 clear h
 obtain ⟨y309, hy309⟩ : ∃ y_ : List (S36), y_ = (([(⟨a0_0, l0_1, l0_2⟩ : S36), (⟨a1_0, l1_1, l1_2⟩ : S36)] : List (S36))) := ⟨_, rfl⟩
 replace H : ((ratio_forms.f k y309).bind fun t312 => (if t312 = true then (if (l1_1.length : Int) = 0 then (some (false, ([] : List Int), ([] : List Int), 10)) else ((nats_Mul.f k l0_1 l1_2).bind fun t313 => ((nats_Mul.f k l0_2 l1_1).bind fun t316 => ((ratio_Make.f k (a0_0 != a1_0) t313 t316).bind fun bt319 => (some (bt319.1, bt319.2.1, bt319.2.2.1, bt319.2.2.2)))))) else (some (false, ([] : List Int), ([] : List Int), 20)))) = some (r1, r2, r3, r4) := by rw [hy309]; exact H
 have Ny309 := Aside0.mk hy309
 clear hy309
 obtain ⟨t312, A3, H⟩ := bindA H
 by_cases c4 : t312 = true
 ·subst c4
  have H1 : (if (l1_1.length : Int) = 0 then (some (false, ([] : List Int), ([] : List Int), 10)) else ((nats_Mul.f k l0_1 l1_2).bind fun t313 => ((nats_Mul.f k l0_2 l1_1).bind fun t316 => ((ratio_Make.f k (a0_0 != a1_0) t313 t316).bind fun bt319 => (some (bt319.1, bt319.2.1, bt319.2.2.1, bt319.2.2.2)))))) = some (r1, r2, r3, r4) := by rw [if_pos rfl] at H; exact H
  clear H
  have H := H1
  clear H1
  by_cases c5 : (l1_1.length : Int) = 0
  ·rw [if_pos c5] at H
   have c5b0 : ((l1_1.length : Int) == 0) = true := beq_iff_eq.mpr c5
   have c5b1 : ((l1_1.length : Int) != 0) = false := bne_eq_false_iff_eq.mpr c5
   clear c5
   simp only [Option.some.injEq, Prod.mk.injEq] at H
   obtain ⟨rfl, rfl, rfl, rfl⟩ := H
   go_enter Try.func33, Try.ntmps33
   go_wp2_with (first | ((with_reducible refine gate_dst (N := 2) rfl ?_); refine box_event ?hg (N := 2) ?hd (cs := #[.bool a0_0, .slice A0_1 l0_1.length c0_1, .slice A0_2 l0_2.length c0_2]) (t := 36) ?hr ?_; (case hd => rfl); (case hg => rfl); (case hr => first | (go_simp; done) | (go_simp; rfl)); intro gb306 hg w6 hbox hb; have n0_ := Aside0.mk (Kd.V_below (Kd.V_elderB (va HO0_1.out) gb306 (Nat.le_of_eq hg.symm)) hb); have n1_ := Aside0.mk (Kd.V_below (Kd.V_elderB (va HO0_2.out) gb306 (Nat.le_of_eq hg.symm)) hb); have n2_ := Aside0.mk (Kd.V_below (Kd.V_elderB (va HO1_1.out) gb306 (Nat.le_of_eq hg.symm)) hb); have n3_ := Aside0.mk (Kd.V_below (Kd.V_elderB (va HO1_2.out) gb306 (Nat.le_of_eq hg.symm)) hb); have n4_ := Aside0.mk (below_step (bl HB) hb); have n5_ := Aside0.mk (hbox); have n6_ := Aside0.mk ((by rw [hg]; exact (below_size (bl HB)) : w.heap.size ≤ gb306)); have n7_ := Aside0.mk ((by rw [hg]; exact (below_size (bl HB)) : w.heap.size ≤ gb306)); clear HO0_1; clear HO0_2; clear HO1_1; clear HO1_2; clear HB; have HO0_1 := n0_; have HO0_2 := n1_; have HO1_1 := n2_; have HO1_2 := n3_; have HB := n4_; have BK306 := n5_; have GW306 := n6_; have GE306 := n7_; clear n0_ n1_ n2_ n3_ n4_ n5_ n6_ n7_; clear hb hbox hg) | ((with_reducible refine gate_dst (N := 3) rfl ?_); refine box_event ?hg (N := 3) ?hd (cs := #[.bool a1_0, .slice A1_1 l1_1.length c1_1, .slice A1_2 l1_2.length c1_2]) (t := 36) ?hr ?_; (case hd => rfl); (case hg => rfl); (case hr => first | (go_simp; done) | (go_simp; rfl)); intro gb307 hg w7 hbox hb; have n0_ := Aside0.mk (Kd.V_below (Kd.V_elderB (va HO0_1.out) gb307 (Nat.le_of_eq hg.symm)) hb); have n1_ := Aside0.mk (Kd.V_below (Kd.V_elderB (va HO0_2.out) gb307 (Nat.le_of_eq hg.symm)) hb); have n2_ := Aside0.mk (Kd.V_below (Kd.V_elderB (va HO1_1.out) gb307 (Nat.le_of_eq hg.symm)) hb); have n3_ := Aside0.mk (Kd.V_below (Kd.V_elderB (va HO1_2.out) gb307 (Nat.le_of_eq hg.symm)) hb); have n4_ := Aside0.mk (blk_below (ba BK306.out) hb); have n5_ := Aside0.mk (below_step (bl1 HB GE306) hb); have n6_ := Aside0.mk (hbox); have n7_ := Aside0.mk ((by rw [hg]; exact (below_size (bl1 HB GE306)) : w.heap.size ≤ gb307)); have n8_ := Aside0.mk ((by rw [hg]; exact (below_size (bl1 HB GE306)) : w.heap.size ≤ gb307)); have n9_ := Aside0.mk ((by rw [hg]; exact Nat.ne_of_lt (blk_lt (g := gb306) (o := .cells #[.bool a0_0, .slice A0_1 l0_1.length c0_1, .slice A0_2 l0_2.length c0_2] 36 (0, 0)) (ba BK306.out)) : gb306 ≠ gb307)); have n10_ := Aside0.mk ((by rw [hg]; exact Nat.ne_of_gt (blk_lt (g := gb306) (o := .cells #[.bool a0_0, .slice A0_1 l0_1.length c0_1, .slice A0_2 l0_2.length c0_2] 36 (0, 0)) (ba BK306.out)) : gb307 ≠ gb306)); clear HO0_1; clear HO0_2; clear HO1_1; clear HO1_2; clear BK306; clear HB; have HO0_1 := n0_; have HO0_2 := n1_; have HO1_1 := n2_; have HO1_2 := n3_; have BK306 := n4_; have HB := n5_; have BK307 := n6_; have GW307 := n7_; have GE307 := n8_; have NB306_307 := n9_; have NB307_306 := n10_; clear n0_ n1_ n2_ n3_ n4_ n5_ n6_ n7_ n8_ n9_ n10_; clear hb hbox hg) | ((with_reducible refine gate_dst (N := 4) rfl ?_); refine box_event ?hg (N := 4) ?hd (cs := #[.bool false, .slice none 0 0, .slice none 0 0]) (t := 36) ?hr ?_; (case hd => rfl); (case hg => rfl); (case hr => first | (go_simp; done) | (go_simp; rfl)); intro gb308 hg w8 hbox hb; have n0_ := Aside0.mk (Kd.V_below (Kd.V_elderB (va HO0_1.out) gb308 (Nat.le_of_eq hg.symm)) hb); have n1_ := Aside0.mk (Kd.V_below (Kd.V_elderB (va HO0_2.out) gb308 (Nat.le_of_eq hg.symm)) hb); have n2_ := Aside0.mk (Kd.V_below (Kd.V_elderB (va HO1_1.out) gb308 (Nat.le_of_eq hg.symm)) hb); have n3_ := Aside0.mk (Kd.V_below (Kd.V_elderB (va HO1_2.out) gb308 (Nat.le_of_eq hg.symm)) hb); have n4_ := Aside0.mk (blk_below (ba BK306.out) hb); have n5_ := Aside0.mk (blk_below (ba BK307.out) hb); have n6_ := Aside0.mk (below_step (bl2 HB GE306 GE307) hb); have n7_ := Aside0.mk (hbox); have n8_ := Aside0.mk ((by rw [hg]; exact (below_size (bl2 HB GE306 GE307)) : w.heap.size ≤ gb308)); have n9_ := Aside0.mk ((by rw [hg]; exact (below_size (bl2 HB GE306 GE307)) : w.heap.size ≤ gb308)); have n10_ := Aside0.mk ((by rw [hg]; exact Nat.ne_of_lt (blk_lt (g := gb306) (o := .cells #[.bool a0_0, .slice A0_1 l0_1.length c0_1, .slice A0_2 l0_2.length c0_2] 36 (0, 0)) (ba BK306.out)) : gb306 ≠ gb308)); have n11_ := Aside0.mk ((by rw [hg]; exact Nat.ne_of_gt (blk_lt (g := gb306) (o := .cells #[.bool a0_0, .slice A0_1 l0_1.length c0_1, .slice A0_2 l0_2.length c0_2] 36 (0, 0)) (ba BK306.out)) : gb308 ≠ gb306)); have n12_ := Aside0.mk ((by rw [hg]; exact Nat.ne_of_lt (blk_lt (g := gb307) (o := .cells #[.bool a1_0, .slice A1_1 l1_1.length c1_1, .slice A1_2 l1_2.length c1_2] 36 (0, 0)) (ba BK307.out)) : gb307 ≠ gb308)); have n13_ := Aside0.mk ((by rw [hg]; exact Nat.ne_of_gt (blk_lt (g := gb307) (o := .cells #[.bool a1_0, .slice A1_1 l1_1.length c1_1, .slice A1_2 l1_2.length c1_2] 36 (0, 0)) (ba BK307.out)) : gb308 ≠ gb307)); clear HO0_1; clear HO0_2; clear HO1_1; clear HO1_2; clear BK306; clear BK307; clear HB; have HO0_1 := n0_; have HO0_2 := n1_; have HO1_1 := n2_; have HO1_2 := n3_; have BK306 := n4_; have BK307 := n5_; have HB := n6_; have BK308 := n7_; have GW308 := n8_; have GE308 := n9_; have NB306_308 := n10_; have NB308_306 := n11_; have NB307_308 := n12_; have NB308_307 := n13_; clear n0_ n1_ n2_ n3_ n4_ n5_ n6_ n7_ n8_ n9_ n10_ n11_ n12_ n13_; clear hb hbox hg; have hnb9 := NB306_307.out; have hnc9 := NB307_306.out; have hnb10 := NB306_308.out; have hnc10 := NB308_306.out; obtain ⟨hcz11_0, hcz11_1, hcz11_2, hfz11_0, hfz11_1, hfz11_2⟩ := blk3 BK306.out; have hnb12 := NB307_308.out; have hnc12 := NB308_307.out; obtain ⟨hcz13_0, hcz13_1, hcz13_2, hfz13_0, hfz13_1, hfz13_2⟩ := blk3 BK307.out) | ((with_reducible refine gate_dst (N := 8) rfl ?_); refine Kd.N_lit k36 _ 36 ?hg (N' := 8) ?hd (xs := ([(⟨a0_0, l0_1, l0_2⟩ : S36), (⟨a1_0, l1_1, l1_2⟩ : S36)] : List (S36))) (inner := [.bool a0_0, .slice A0_1 l0_1.length c0_1, .slice A0_2 l0_2.length c0_2, .bool a1_0, .slice A1_1 l1_1.length c1_1, .slice A1_2 l1_2.length c1_2]) (ok := (fun k_ => ((P0_1_ k_ ∨ P0_2_ k_ ∨ P1_1_ k_ ∨ P1_2_ k_) ∨ w.heap.size ≤ k_) ∧ k_ ≠ gb306 ∧ k_ ≠ gb307 ∧ k_ ≠ gb308)) (okp := (fun k_ => ((P0_1_ k_ ∨ P0_2_ k_ ∨ P1_1_ k_ ∨ P1_2_ k_) ∨ w.heap.size ≤ k_) ∧ k_ ≠ gb306 ∧ k_ ≠ gb307 ∧ k_ ≠ gb308)) ?hr ?hp (fun _ hk => hk) ((show ∀ k_, w8.heap.size ≤ k_ → (fun k_ => ((P0_1_ k_ ∨ P0_2_ k_ ∨ P1_1_ k_ ∨ P1_2_ k_) ∨ w.heap.size ≤ k_) ∧ k_ ≠ gb306 ∧ k_ ≠ gb307 ∧ k_ ≠ gb308) k_ from fun k_ hk => ⟨(.inr (Nat.le_trans (below_size (bl3 HB GE306 GE307 GE308)) hk)), Kd.freshB (g := gb306) (o := .cells #[.bool a0_0, .slice A0_1 l0_1.length c0_1, .slice A0_2 l0_2.length c0_2] 36 (0, 0)) (ba BK306.out) k_ hk, Kd.freshB (g := gb307) (o := .cells #[.bool a1_0, .slice A1_1 l1_1.length c1_1, .slice A1_2 l1_2.length c1_2] 36 (0, 0)) (ba BK307.out) k_ hk, Kd.freshB (g := gb308) (o := .cells #[.bool false, .slice none 0 0, .slice none 0 0] 36 (0, 0)) (ba BK308.out) k_ hk⟩) _ (Nat.le_refl _)) (Below.refl _ _) (Nat.le_refl _) (by simp) ?_; (case hd => rfl); (case hg => rfl); (case hr => first | (go_simp; done) | (go_simp; rfl)); (case hp => exact (Reps.c3 (show Kd.FK k36 _ _ (⟨a0_0, l0_1, l0_2⟩ : S36) [.bool a0_0, .slice A0_1 l0_1.length c0_1, .slice A0_2 l0_2.length c0_2] from (k36_mkF _ _ (⟨a0_0, l0_1, l0_2⟩ : S36) (Kd.V_reads' (Kd.V_mono (ok' := (fun k_ => ((P0_1_ k_ ∨ P0_2_ k_ ∨ P1_1_ k_ ∨ P1_2_ k_) ∨ w.heap.size ≤ k_) ∧ k_ ≠ gb306 ∧ k_ ≠ gb307 ∧ k_ ≠ gb308)) (HO0_1.out) (fun k_ hk => ⟨hk.1.1.1, ⟨hk.1.1.2, ⟨hk.1.2, hk.2⟩⟩⟩))).2.1 (Kd.V_F (Kd.V_mono (ok' := (fun k_ => ((P0_1_ k_ ∨ P0_2_ k_ ∨ P1_1_ k_ ∨ P1_2_ k_) ∨ w.heap.size ≤ k_) ∧ k_ ≠ gb306 ∧ k_ ≠ gb307 ∧ k_ ≠ gb308)) (HO0_1.out) (fun k_ hk => ⟨hk.1.1.1, ⟨hk.1.1.2, ⟨hk.1.2, hk.2⟩⟩⟩))) (Kd.V_reads' (Kd.V_mono (ok' := (fun k_ => ((P0_1_ k_ ∨ P0_2_ k_ ∨ P1_1_ k_ ∨ P1_2_ k_) ∨ w.heap.size ≤ k_) ∧ k_ ≠ gb306 ∧ k_ ≠ gb307 ∧ k_ ≠ gb308)) (HO0_2.out) (fun k_ hk => ⟨hk.1.1.1, ⟨hk.1.1.2, ⟨hk.1.2, hk.2⟩⟩⟩))).2.1 (Kd.V_F (Kd.V_mono (ok' := (fun k_ => ((P0_1_ k_ ∨ P0_2_ k_ ∨ P1_1_ k_ ∨ P1_2_ k_) ∨ w.heap.size ≤ k_) ∧ k_ ≠ gb306 ∧ k_ ≠ gb307 ∧ k_ ≠ gb308)) (HO0_2.out) (fun k_ hk => ⟨hk.1.1.1, ⟨hk.1.1.2, ⟨hk.1.2, hk.2⟩⟩⟩))))) (Reps.c3 (show Kd.FK k36 _ _ (⟨a1_0, l1_1, l1_2⟩ : S36) [.bool a1_0, .slice A1_1 l1_1.length c1_1, .slice A1_2 l1_2.length c1_2] from (k36_mkF _ _ (⟨a1_0, l1_1, l1_2⟩ : S36) (Kd.V_reads' (Kd.V_mono (ok' := (fun k_ => ((P0_1_ k_ ∨ P0_2_ k_ ∨ P1_1_ k_ ∨ P1_2_ k_) ∨ w.heap.size ≤ k_) ∧ k_ ≠ gb306 ∧ k_ ≠ gb307 ∧ k_ ≠ gb308)) (HO1_1.out) (fun k_ hk => ⟨hk.1.1.1, ⟨hk.1.1.2, ⟨hk.1.2, hk.2⟩⟩⟩))).2.1 (Kd.V_F (Kd.V_mono (ok' := (fun k_ => ((P0_1_ k_ ∨ P0_2_ k_ ∨ P1_1_ k_ ∨ P1_2_ k_) ∨ w.heap.size ≤ k_) ∧ k_ ≠ gb306 ∧ k_ ≠ gb307 ∧ k_ ≠ gb308)) (HO1_1.out) (fun k_ hk => ⟨hk.1.1.1, ⟨hk.1.1.2, ⟨hk.1.2, hk.2⟩⟩⟩))) (Kd.V_reads' (Kd.V_mono (ok' := (fun k_ => ((P0_1_ k_ ∨ P0_2_ k_ ∨ P1_1_ k_ ∨ P1_2_ k_) ∨ w.heap.size ≤ k_) ∧ k_ ≠ gb306 ∧ k_ ≠ gb307 ∧ k_ ≠ gb308)) (HO1_2.out) (fun k_ hk => ⟨hk.1.1.1, ⟨hk.1.1.2, ⟨hk.1.2, hk.2⟩⟩⟩))).2.1 (Kd.V_F (Kd.V_mono (ok' := (fun k_ => ((P0_1_ k_ ∨ P0_2_ k_ ∨ P1_1_ k_ ∨ P1_2_ k_) ∨ w.heap.size ≤ k_) ∧ k_ ≠ gb306 ∧ k_ ≠ gb307 ∧ k_ ≠ gb308)) (HO1_2.out) (fun k_ hk => ⟨hk.1.1.1, ⟨hk.1.1.2, ⟨hk.1.2, hk.2⟩⟩⟩))))) (Reps.none _ _)))); intro v310 w14 ho15 hb hg_ hnew_; clear hg_ hnew_; (first | rw [← Ny309.out] at ho15 | (simp only [Int.reduceToNat] at ho15; rw [← Ny309.out] at ho15)); have n0_ := Aside0.mk (Kd.V_elder' (va HO0_1.out) (Kd.N_base ho15) hb); have n1_ := Aside0.mk (Kd.V_elder' (va HO0_2.out) (Kd.N_base ho15) hb); have n2_ := Aside0.mk (Kd.V_elder' (va HO1_1.out) (Kd.N_base ho15) hb); have n3_ := Aside0.mk (Kd.V_elder' (va HO1_2.out) (Kd.N_base ho15) hb); have n4_ := Aside0.mk (Kd.N_lower ho15 (below_size (bl3 HB GE306 GE307 GE308))); have n5_ := Aside0.mk (blk_below (ba BK306.out) hb); have n6_ := Aside0.mk (blk_below (ba BK307.out) hb); have n7_ := Aside0.mk (blk_below (ba BK308.out) hb); have n8_ := Aside0.mk (below_step (bl3 HB GE306 GE307 GE308) hb); clear HO0_1; clear HO0_2; clear HO1_1; clear HO1_2; clear BK306; clear BK307; clear BK308; clear HB; have HO0_1 := n0_; have HO0_2 := n1_; have HO1_1 := n2_; have HO1_2 := n3_; have HO311 := n4_; have BK306 := n5_; have BK307 := n6_; have BK308 := n7_; have HB := n8_; clear n0_ n1_ n2_ n3_ n4_ n5_ n6_ n7_ n8_; clear hb ho15; obtain ⟨Ao16, co16, eo16⟩ := Kd.N_slice HO311.out; subst eo16) | ((with_reducible refine gate_callee (f := 65) rfl ?_); refine goesM (some 9) rfl rfl Try.func65 (by kernel_rfl) rfl #[.slice Ao16 y309.length co16] rfl (by rfl) ?_; (with_reducible refine (ratio_forms.calls k _ _ y309 true _ ?side1 ?side2 A3.out).mono ?_); (case side1 => exact ca ((Kd.N_reads' HO311.out).2.2)); (case side2 => exact (Kd.N_reads' HO311.out).2.1); rintro e w17 ⟨rfl, hb⟩; refine ⟨_, rfl, ?_⟩; have n0_ := Aside0.mk (Kd.V_below (va HO0_1.out) hb); have n1_ := Aside0.mk (Kd.V_below (va HO0_2.out) hb); have n2_ := Aside0.mk (Kd.V_below (va HO1_1.out) hb); have n3_ := Aside0.mk (Kd.V_below (va HO1_2.out) hb); have n4_ := Aside0.mk (Kd.N_below (by (with_reducible repeat (first | apply Kd.N_alloc | apply Kd.N_drewN | apply Kd.N_drew)); exact HO311.out) hb); have n5_ := Aside0.mk (blk_below (ba BK306.out) hb); have n6_ := Aside0.mk (blk_below (ba BK307.out) hb); have n7_ := Aside0.mk (blk_below (ba BK308.out) hb); have n8_ := Aside0.mk (below_step (bl3 HB GE306 GE307 GE308) hb); clear HO0_1; clear HO0_2; clear HO1_1; clear HO1_2; clear HO311; clear BK306; clear BK307; clear BK308; clear HB; have HO0_1 := n0_; have HO0_2 := n1_; have HO1_1 := n2_; have HO1_2 := n3_; have HO311 := n4_; have BK306 := n5_; have BK307 := n6_; have BK308 := n7_; have HB := n8_; clear n0_ n1_ n2_ n3_ n4_ n5_ n6_ n7_ n8_; (try clear hb); (try clear hb2); (try clear hk); (try clear hi); obtain ⟨hcz18_0, hcz18_1, hcz18_2, hfz18_0, hfz18_1, hfz18_2⟩ := blk3 BK307.out; obtain ⟨hcz19_0, hcz19_1, hcz19_2, hfz19_0, hfz19_1, hfz19_2⟩ := blk3 BK308.out))
   refine bodyPost_ret (results_ct rfl _ _ gb308 36 #[.bool false, .slice none 0 0, .slice none 0 0] (0, 0) _ rfl (by exact bp BK308.out rfl) Try.underlying36 rfl (by kernel_rfl)) rfl ?_
   exact ⟨_, _, by first | rfl | simp [*], by first | exact Kd.R_nil _ _ _ _ _ | exact Kd.V_nil _ _ _ _ _, by first | exact Kd.R_nil _ _ _ _ _ | exact Kd.V_nil _ _ _ _ _, bl3 HB GE306 GE307 GE308⟩
  ·rw [if_neg c5] at H
   have c5b0 : ((l1_1.length : Int) == 0) = false := beq_eq_false_iff_ne.mpr c5
   have c5b1 : ((l1_1.length : Int) != 0) = true := bne_iff_ne.mpr c5
   have c5b2 : ¬ (l1_1 = []) := fun h_ => c5 (by rw [h_]; rfl)
   obtain ⟨t313, A20, H⟩ := bindA H
   obtain ⟨t316, A21, H⟩ := bindA H
   obtain ⟨⟨t319, t320, t323, t326⟩, A22, H⟩ := bindA H
   dsimp only at H
   simp only [Option.some.injEq, Prod.mk.injEq] at H
   obtain ⟨rfl, rfl, rfl, rfl⟩ := H
   go_enter Try.func33, Try.ntmps33
   try go_wp2_with (first | ((with_reducible refine gate_dst (N := 2) rfl ?_); refine box_event ?hg (N := 2) ?hd (cs := #[.bool a0_0, .slice A0_1 l0_1.length c0_1, .slice A0_2 l0_2.length c0_2]) (t := 36) ?hr ?_; (case hd => rfl); (case hg => rfl); (case hr => first | (go_simp; done) | (go_simp; rfl)); intro gb306 hg w23 hbox hb; have n0_ := Aside0.mk (Kd.V_below (Kd.V_elderB (va HO0_1.out) gb306 (Nat.le_of_eq hg.symm)) hb); have n1_ := Aside0.mk (Kd.V_below (Kd.V_elderB (va HO0_2.out) gb306 (Nat.le_of_eq hg.symm)) hb); have n2_ := Aside0.mk (Kd.V_below (Kd.V_elderB (va HO1_1.out) gb306 (Nat.le_of_eq hg.symm)) hb); have n3_ := Aside0.mk (Kd.V_below (Kd.V_elderB (va HO1_2.out) gb306 (Nat.le_of_eq hg.symm)) hb); have n4_ := Aside0.mk (below_step (bl HB) hb); have n5_ := Aside0.mk (hbox); have n6_ := Aside0.mk ((by rw [hg]; exact (below_size (bl HB)) : w.heap.size ≤ gb306)); have n7_ := Aside0.mk ((by rw [hg]; exact (below_size (bl HB)) : w.heap.size ≤ gb306)); clear HO0_1; clear HO0_2; clear HO1_1; clear HO1_2; clear HB; have HO0_1 := n0_; have HO0_2 := n1_; have HO1_1 := n2_; have HO1_2 := n3_; have HB := n4_; have BK306 := n5_; have GW306 := n6_; have GE306 := n7_; clear n0_ n1_ n2_ n3_ n4_ n5_ n6_ n7_; clear hb hbox hg) | ((with_reducible refine gate_dst (N := 3) rfl ?_); refine box_event ?hg (N := 3) ?hd (cs := #[.bool a1_0, .slice A1_1 l1_1.length c1_1, .slice A1_2 l1_2.length c1_2]) (t := 36) ?hr ?_; (case hd => rfl); (case hg => rfl); (case hr => first | (go_simp; done) | (go_simp; rfl)); intro gb307 hg w24 hbox hb; have n0_ := Aside0.mk (Kd.V_below (Kd.V_elderB (va HO0_1.out) gb307 (Nat.le_of_eq hg.symm)) hb); have n1_ := Aside0.mk (Kd.V_below (Kd.V_elderB (va HO0_2.out) gb307 (Nat.le_of_eq hg.symm)) hb); have n2_ := Aside0.mk (Kd.V_below (Kd.V_elderB (va HO1_1.out) gb307 (Nat.le_of_eq hg.symm)) hb); have n3_ := Aside0.mk (Kd.V_below (Kd.V_elderB (va HO1_2.out) gb307 (Nat.le_of_eq hg.symm)) hb); have n4_ := Aside0.mk (blk_below (ba BK306.out) hb); have n5_ := Aside0.mk (below_step (bl1 HB GE306) hb); have n6_ := Aside0.mk (hbox); have n7_ := Aside0.mk ((by rw [hg]; exact (below_size (bl1 HB GE306)) : w.heap.size ≤ gb307)); have n8_ := Aside0.mk ((by rw [hg]; exact (below_size (bl1 HB GE306)) : w.heap.size ≤ gb307)); have n9_ := Aside0.mk ((by rw [hg]; exact Nat.ne_of_lt (blk_lt (g := gb306) (o := .cells #[.bool a0_0, .slice A0_1 l0_1.length c0_1, .slice A0_2 l0_2.length c0_2] 36 (0, 0)) (ba BK306.out)) : gb306 ≠ gb307)); have n10_ := Aside0.mk ((by rw [hg]; exact Nat.ne_of_gt (blk_lt (g := gb306) (o := .cells #[.bool a0_0, .slice A0_1 l0_1.length c0_1, .slice A0_2 l0_2.length c0_2] 36 (0, 0)) (ba BK306.out)) : gb307 ≠ gb306)); clear HO0_1; clear HO0_2; clear HO1_1; clear HO1_2; clear BK306; clear HB; have HO0_1 := n0_; have HO0_2 := n1_; have HO1_1 := n2_; have HO1_2 := n3_; have BK306 := n4_; have HB := n5_; have BK307 := n6_; have GW307 := n7_; have GE307 := n8_; have NB306_307 := n9_; have NB307_306 := n10_; clear n0_ n1_ n2_ n3_ n4_ n5_ n6_ n7_ n8_ n9_ n10_; clear hb hbox hg) | ((with_reducible refine gate_dst (N := 4) rfl ?_); refine box_event ?hg (N := 4) ?hd (cs := #[.bool false, .slice none 0 0, .slice none 0 0]) (t := 36) ?hr ?_; (case hd => rfl); (case hg => rfl); (case hr => first | (go_simp; done) | (go_simp; rfl)); intro gb308 hg w25 hbox hb; have n0_ := Aside0.mk (Kd.V_below (Kd.V_elderB (va HO0_1.out) gb308 (Nat.le_of_eq hg.symm)) hb); have n1_ := Aside0.mk (Kd.V_below (Kd.V_elderB (va HO0_2.out) gb308 (Nat.le_of_eq hg.symm)) hb); have n2_ := Aside0.mk (Kd.V_below (Kd.V_elderB (va HO1_1.out) gb308 (Nat.le_of_eq hg.symm)) hb); have n3_ := Aside0.mk (Kd.V_below (Kd.V_elderB (va HO1_2.out) gb308 (Nat.le_of_eq hg.symm)) hb); have n4_ := Aside0.mk (blk_below (ba BK306.out) hb); have n5_ := Aside0.mk (blk_below (ba BK307.out) hb); have n6_ := Aside0.mk (below_step (bl2 HB GE306 GE307) hb); have n7_ := Aside0.mk (hbox); have n8_ := Aside0.mk ((by rw [hg]; exact (below_size (bl2 HB GE306 GE307)) : w.heap.size ≤ gb308)); have n9_ := Aside0.mk ((by rw [hg]; exact (below_size (bl2 HB GE306 GE307)) : w.heap.size ≤ gb308)); have n10_ := Aside0.mk ((by rw [hg]; exact Nat.ne_of_lt (blk_lt (g := gb306) (o := .cells #[.bool a0_0, .slice A0_1 l0_1.length c0_1, .slice A0_2 l0_2.length c0_2] 36 (0, 0)) (ba BK306.out)) : gb306 ≠ gb308)); have n11_ := Aside0.mk ((by rw [hg]; exact Nat.ne_of_gt (blk_lt (g := gb306) (o := .cells #[.bool a0_0, .slice A0_1 l0_1.length c0_1, .slice A0_2 l0_2.length c0_2] 36 (0, 0)) (ba BK306.out)) : gb308 ≠ gb306)); have n12_ := Aside0.mk ((by rw [hg]; exact Nat.ne_of_lt (blk_lt (g := gb307) (o := .cells #[.bool a1_0, .slice A1_1 l1_1.length c1_1, .slice A1_2 l1_2.length c1_2] 36 (0, 0)) (ba BK307.out)) : gb307 ≠ gb308)); have n13_ := Aside0.mk ((by rw [hg]; exact Nat.ne_of_gt (blk_lt (g := gb307) (o := .cells #[.bool a1_0, .slice A1_1 l1_1.length c1_1, .slice A1_2 l1_2.length c1_2] 36 (0, 0)) (ba BK307.out)) : gb308 ≠ gb307)); clear HO0_1; clear HO0_2; clear HO1_1; clear HO1_2; clear BK306; clear BK307; clear HB; have HO0_1 := n0_; have HO0_2 := n1_; have HO1_1 := n2_; have HO1_2 := n3_; have BK306 := n4_; have BK307 := n5_; have HB := n6_; have BK308 := n7_; have GW308 := n8_; have GE308 := n9_; have NB306_308 := n10_; have NB308_306 := n11_; have NB307_308 := n12_; have NB308_307 := n13_; clear n0_ n1_ n2_ n3_ n4_ n5_ n6_ n7_ n8_ n9_ n10_ n11_ n12_ n13_; clear hb hbox hg; have hnb26 := NB306_307.out; have hnc26 := NB307_306.out; have hnb27 := NB306_308.out; have hnc27 := NB308_306.out; obtain ⟨hcz28_0, hcz28_1, hcz28_2, hfz28_0, hfz28_1, hfz28_2⟩ := blk3 BK306.out; have hnb29 := NB307_308.out; have hnc29 := NB308_307.out; obtain ⟨hcz30_0, hcz30_1, hcz30_2, hfz30_0, hfz30_1, hfz30_2⟩ := blk3 BK307.out) | ((with_reducible refine gate_dst (N := 8) rfl ?_); refine Kd.N_lit k36 _ 36 ?hg (N' := 8) ?hd (xs := ([(⟨a0_0, l0_1, l0_2⟩ : S36), (⟨a1_0, l1_1, l1_2⟩ : S36)] : List (S36))) (inner := [.bool a0_0, .slice A0_1 l0_1.length c0_1, .slice A0_2 l0_2.length c0_2, .bool a1_0, .slice A1_1 l1_1.length c1_1, .slice A1_2 l1_2.length c1_2]) (ok := (fun k_ => ((P0_1_ k_ ∨ P0_2_ k_ ∨ P1_1_ k_ ∨ P1_2_ k_) ∨ w.heap.size ≤ k_) ∧ k_ ≠ gb306 ∧ k_ ≠ gb307 ∧ k_ ≠ gb308)) (okp := (fun k_ => ((P0_1_ k_ ∨ P0_2_ k_ ∨ P1_1_ k_ ∨ P1_2_ k_) ∨ w.heap.size ≤ k_) ∧ k_ ≠ gb306 ∧ k_ ≠ gb307 ∧ k_ ≠ gb308)) ?hr ?hp (fun _ hk => hk) ((show ∀ k_, w25.heap.size ≤ k_ → (fun k_ => ((P0_1_ k_ ∨ P0_2_ k_ ∨ P1_1_ k_ ∨ P1_2_ k_) ∨ w.heap.size ≤ k_) ∧ k_ ≠ gb306 ∧ k_ ≠ gb307 ∧ k_ ≠ gb308) k_ from fun k_ hk => ⟨(.inr (Nat.le_trans (below_size (bl3 HB GE306 GE307 GE308)) hk)), Kd.freshB (g := gb306) (o := .cells #[.bool a0_0, .slice A0_1 l0_1.length c0_1, .slice A0_2 l0_2.length c0_2] 36 (0, 0)) (ba BK306.out) k_ hk, Kd.freshB (g := gb307) (o := .cells #[.bool a1_0, .slice A1_1 l1_1.length c1_1, .slice A1_2 l1_2.length c1_2] 36 (0, 0)) (ba BK307.out) k_ hk, Kd.freshB (g := gb308) (o := .cells #[.bool false, .slice none 0 0, .slice none 0 0] 36 (0, 0)) (ba BK308.out) k_ hk⟩) _ (Nat.le_refl _)) (Below.refl _ _) (Nat.le_refl _) (by simp) ?_; (case hd => rfl); (case hg => rfl); (case hr => first | (go_simp; done) | (go_simp; rfl)); (case hp => exact (Reps.c3 (show Kd.FK k36 _ _ (⟨a0_0, l0_1, l0_2⟩ : S36) [.bool a0_0, .slice A0_1 l0_1.length c0_1, .slice A0_2 l0_2.length c0_2] from (k36_mkF _ _ (⟨a0_0, l0_1, l0_2⟩ : S36) (Kd.V_reads' (Kd.V_mono (ok' := (fun k_ => ((P0_1_ k_ ∨ P0_2_ k_ ∨ P1_1_ k_ ∨ P1_2_ k_) ∨ w.heap.size ≤ k_) ∧ k_ ≠ gb306 ∧ k_ ≠ gb307 ∧ k_ ≠ gb308)) (HO0_1.out) (fun k_ hk => ⟨hk.1.1.1, ⟨hk.1.1.2, ⟨hk.1.2, hk.2⟩⟩⟩))).2.1 (Kd.V_F (Kd.V_mono (ok' := (fun k_ => ((P0_1_ k_ ∨ P0_2_ k_ ∨ P1_1_ k_ ∨ P1_2_ k_) ∨ w.heap.size ≤ k_) ∧ k_ ≠ gb306 ∧ k_ ≠ gb307 ∧ k_ ≠ gb308)) (HO0_1.out) (fun k_ hk => ⟨hk.1.1.1, ⟨hk.1.1.2, ⟨hk.1.2, hk.2⟩⟩⟩))) (Kd.V_reads' (Kd.V_mono (ok' := (fun k_ => ((P0_1_ k_ ∨ P0_2_ k_ ∨ P1_1_ k_ ∨ P1_2_ k_) ∨ w.heap.size ≤ k_) ∧ k_ ≠ gb306 ∧ k_ ≠ gb307 ∧ k_ ≠ gb308)) (HO0_2.out) (fun k_ hk => ⟨hk.1.1.1, ⟨hk.1.1.2, ⟨hk.1.2, hk.2⟩⟩⟩))).2.1 (Kd.V_F (Kd.V_mono (ok' := (fun k_ => ((P0_1_ k_ ∨ P0_2_ k_ ∨ P1_1_ k_ ∨ P1_2_ k_) ∨ w.heap.size ≤ k_) ∧ k_ ≠ gb306 ∧ k_ ≠ gb307 ∧ k_ ≠ gb308)) (HO0_2.out) (fun k_ hk => ⟨hk.1.1.1, ⟨hk.1.1.2, ⟨hk.1.2, hk.2⟩⟩⟩))))) (Reps.c3 (show Kd.FK k36 _ _ (⟨a1_0, l1_1, l1_2⟩ : S36) [.bool a1_0, .slice A1_1 l1_1.length c1_1, .slice A1_2 l1_2.length c1_2] from (k36_mkF _ _ (⟨a1_0, l1_1, l1_2⟩ : S36) (Kd.V_reads' (Kd.V_mono (ok' := (fun k_ => ((P0_1_ k_ ∨ P0_2_ k_ ∨ P1_1_ k_ ∨ P1_2_ k_) ∨ w.heap.size ≤ k_) ∧ k_ ≠ gb306 ∧ k_ ≠ gb307 ∧ k_ ≠ gb308)) (HO1_1.out) (fun k_ hk => ⟨hk.1.1.1, ⟨hk.1.1.2, ⟨hk.1.2, hk.2⟩⟩⟩))).2.1 (Kd.V_F (Kd.V_mono (ok' := (fun k_ => ((P0_1_ k_ ∨ P0_2_ k_ ∨ P1_1_ k_ ∨ P1_2_ k_) ∨ w.heap.size ≤ k_) ∧ k_ ≠ gb306 ∧ k_ ≠ gb307 ∧ k_ ≠ gb308)) (HO1_1.out) (fun k_ hk => ⟨hk.1.1.1, ⟨hk.1.1.2, ⟨hk.1.2, hk.2⟩⟩⟩))) (Kd.V_reads' (Kd.V_mono (ok' := (fun k_ => ((P0_1_ k_ ∨ P0_2_ k_ ∨ P1_1_ k_ ∨ P1_2_ k_) ∨ w.heap.size ≤ k_) ∧ k_ ≠ gb306 ∧ k_ ≠ gb307 ∧ k_ ≠ gb308)) (HO1_2.out) (fun k_ hk => ⟨hk.1.1.1, ⟨hk.1.1.2, ⟨hk.1.2, hk.2⟩⟩⟩))).2.1 (Kd.V_F (Kd.V_mono (ok' := (fun k_ => ((P0_1_ k_ ∨ P0_2_ k_ ∨ P1_1_ k_ ∨ P1_2_ k_) ∨ w.heap.size ≤ k_) ∧ k_ ≠ gb306 ∧ k_ ≠ gb307 ∧ k_ ≠ gb308)) (HO1_2.out) (fun k_ hk => ⟨hk.1.1.1, ⟨hk.1.1.2, ⟨hk.1.2, hk.2⟩⟩⟩))))) (Reps.none _ _)))); intro v310 w31 ho32 hb hg_ hnew_; clear hg_ hnew_; (first | rw [← Ny309.out] at ho32 | (simp only [Int.reduceToNat] at ho32; rw [← Ny309.out] at ho32)); have n0_ := Aside0.mk (Kd.V_elder' (va HO0_1.out) (Kd.N_base ho32) hb); have n1_ := Aside0.mk (Kd.V_elder' (va HO0_2.out) (Kd.N_base ho32) hb); have n2_ := Aside0.mk (Kd.V_elder' (va HO1_1.out) (Kd.N_base ho32) hb); have n3_ := Aside0.mk (Kd.V_elder' (va HO1_2.out) (Kd.N_base ho32) hb); have n4_ := Aside0.mk (Kd.N_lower ho32 (below_size (bl3 HB GE306 GE307 GE308))); have n5_ := Aside0.mk (blk_below (ba BK306.out) hb); have n6_ := Aside0.mk (blk_below (ba BK307.out) hb); have n7_ := Aside0.mk (blk_below (ba BK308.out) hb); have n8_ := Aside0.mk (below_step (bl3 HB GE306 GE307 GE308) hb); clear HO0_1; clear HO0_2; clear HO1_1; clear HO1_2; clear BK306; clear BK307; clear BK308; clear HB; have HO0_1 := n0_; have HO0_2 := n1_; have HO1_1 := n2_; have HO1_2 := n3_; have HO311 := n4_; have BK306 := n5_; have BK307 := n6_; have BK308 := n7_; have HB := n8_; clear n0_ n1_ n2_ n3_ n4_ n5_ n6_ n7_ n8_; clear hb ho32; obtain ⟨Ao33, co33, eo33⟩ := Kd.N_slice HO311.out; subst eo33) | ((with_reducible refine gate_callee (f := 65) rfl ?_); refine goesM (some 9) rfl rfl Try.func65 (by kernel_rfl) rfl #[.slice Ao33 y309.length co33] rfl (by rfl) ?_; (with_reducible refine (ratio_forms.calls k _ _ y309 true _ ?side1 ?side2 A3.out).mono ?_); (case side1 => exact ca ((Kd.N_reads' HO311.out).2.2)); (case side2 => exact (Kd.N_reads' HO311.out).2.1); rintro e w34 ⟨rfl, hb⟩; refine ⟨_, rfl, ?_⟩; have n0_ := Aside0.mk (Kd.V_below (va HO0_1.out) hb); have n1_ := Aside0.mk (Kd.V_below (va HO0_2.out) hb); have n2_ := Aside0.mk (Kd.V_below (va HO1_1.out) hb); have n3_ := Aside0.mk (Kd.V_below (va HO1_2.out) hb); have n4_ := Aside0.mk (Kd.N_below (by (with_reducible repeat (first | apply Kd.N_alloc | apply Kd.N_drewN | apply Kd.N_drew)); exact HO311.out) hb); have n5_ := Aside0.mk (blk_below (ba BK306.out) hb); have n6_ := Aside0.mk (blk_below (ba BK307.out) hb); have n7_ := Aside0.mk (blk_below (ba BK308.out) hb); have n8_ := Aside0.mk (below_step (bl3 HB GE306 GE307 GE308) hb); clear HO0_1; clear HO0_2; clear HO1_1; clear HO1_2; clear HO311; clear BK306; clear BK307; clear BK308; clear HB; have HO0_1 := n0_; have HO0_2 := n1_; have HO1_1 := n2_; have HO1_2 := n3_; have HO311 := n4_; have BK306 := n5_; have BK307 := n6_; have BK308 := n7_; have HB := n8_; clear n0_ n1_ n2_ n3_ n4_ n5_ n6_ n7_ n8_; (try clear hb); (try clear hb2); (try clear hk); (try clear hi); obtain ⟨hcz35_0, hcz35_1, hcz35_2, hfz35_0, hfz35_1, hfz35_2⟩ := blk3 BK307.out))
   have n0_ := Aside0.mk (Kd.V_drew HO0_1.out)
   have n1_ := Aside0.mk (Kd.V_drew HO0_2.out)
   have n2_ := Aside0.mk (Kd.V_drew HO1_1.out)
   have n3_ := Aside0.mk (Kd.V_drew HO1_2.out)
   have n4_ := Aside0.mk (Kd.N_drew HO311.out)
   have n5_ := Aside0.mk (blk_drew BK306.out)
   have n6_ := Aside0.mk (blk_drew BK307.out)
   have n7_ := Aside0.mk (blk_drew BK308.out)
   have n8_ := Aside0.mk (below_drew1 HB.out)
   clear HO0_1
   clear HO0_2
   clear HO1_1
   clear HO1_2
   clear HO311
   clear BK306
   clear BK307
   clear BK308
   clear HB
   have HO0_1 := n0_
   have HO0_2 := n1_
   have HO1_1 := n2_
   have HO1_2 := n3_
   have HO311 := n4_
   have BK306 := n5_
   have BK307 := n6_
   have BK308 := n7_
   have HB := n8_
   clear n0_ n1_ n2_ n3_ n4_ n5_ n6_ n7_ n8_
   refine start_ (n := 20) (S := fun w' => w'.cell? ⟨gb306, 0, none⟩ = some (.bool a0_0) ∧ w'.cell? ⟨gb306, 1, none⟩ = some (.slice A0_1 l0_1.length c0_1) ∧ w'.cell? ⟨gb306, 2, none⟩ = some (.slice A0_2 l0_2.length c0_2) ∧ w'.cell? ⟨gb307, 0, none⟩ = some (.bool a1_0) ∧ w'.cell? ⟨gb307, 1, none⟩ = some (.slice A1_1 l1_1.length c1_1) ∧ w'.cell? ⟨gb307, 2, none⟩ = some (.slice A1_2 l1_2.length c1_2)) (ds := []) #[false, false, false, false, false, false, false, false, false, false, false, false, false, false, false, false, false, false, false, false] (by kernel_rfl) rfl rfl ⟨(blk_cell BK306.out 0).trans rfl, (blk_cell BK306.out 1).trans rfl, (blk_cell BK306.out 2).trans rfl, (blk_cell BK307.out 0).trans rfl, (blk_cell BK307.out 1).trans rfl, (blk_cell BK307.out 2).trans rfl⟩ (fun hHeld => ?_); refine with_tabW ratio_Div.tab5 ratio_Div.bits5 (fun HT_ HW_ => ?_)
   generalize w34.drew = w36 at HO0_1 HO0_2 HO1_1 HO1_2 HO311 BK306 BK307 BK308 HB hHeld ⊢
   refine pure_ (i := 0) (N := some 17) (v := ?_) (a' := ?_) #[true, false, false, false, false, false, false, false, false, false, false, false, false, false, false, false, false, false, false, false] rfl rfl (any_of HT_.out (by kernel_rfl)) (fun _ _ _ h => h) (Or.inl ⟨by rfl, ?_⟩) ?_ ?_
   rotate_left
   ·intro w'
    go_simp
    with_reducible rfl
   rotate_left
   ·simp only [Act.put, List.setIfInBounds_toArray, List.set_cons_zero, List.set_cons_succ, i64_w, i32_w]
    rfl
   refine pure_ (i := 2) (N := some 19) (v := ?_) (a' := ?_) #[true, false, true, false, false, false, false, false, false, false, false, false, false, false, false, false, false, false, false, false] rfl rfl (any_of HT_.out (by kernel_rfl)) (fun _ _ _ h => h) (Or.inl ⟨by rfl, ?_⟩) ?_ ?_
   rotate_left
   ·intro w'
    go_simp
    with_reducible rfl
   rotate_left
   ·simp only [Act.put, List.setIfInBounds_toArray, List.set_cons_zero, List.set_cons_succ, i64_w, i32_w]
    rfl
   refine pure_ (i := 5) (N := some 22) (v := ?_) (a' := ?_) #[true, false, true, false, false, true, false, false, false, false, false, false, false, false, false, false, false, false, false, false] rfl rfl (any_of HT_.out (by kernel_rfl)) (fun _ _ _ h => h) (Or.inl ⟨by rfl, ?_⟩) ?_ ?_
   rotate_left
   ·intro w'
    go_simp
    with_reducible rfl
   rotate_left
   ·simp only [Act.put, List.setIfInBounds_toArray, List.set_cons_zero, List.set_cons_succ, i64_w, i32_w]
    rfl
   refine pure_ (i := 7) (N := some 24) (v := ?_) (a' := ?_) #[true, false, true, false, false, true, false, true, false, false, false, false, false, false, false, false, false, false, false, false] rfl rfl (any_of HT_.out (by kernel_rfl)) (fun _ _ _ h => h) (Or.inl ⟨by rfl, ?_⟩) ?_ ?_
   rotate_left
   ·intro w'
    go_simp
    with_reducible rfl
   rotate_left
   ·simp only [Act.put, List.setIfInBounds_toArray, List.set_cons_zero, List.set_cons_succ, i64_w, i32_w]
    rfl
   refine pure_ (i := 10) (N := some 27) (v := ?_) (a' := ?_) #[true, false, true, false, false, true, false, true, false, false, true, false, false, false, false, false, false, false, false, false] rfl rfl (any_of HT_.out (by kernel_rfl)) (fun _ _ _ h => h) (Or.inl ⟨by rfl, ?_⟩) ?_ ?_
   rotate_left
   ·intro w'
    go_simp
    with_reducible rfl
   rotate_left
   ·simp only [Act.put, List.setIfInBounds_toArray, List.set_cons_zero, List.set_cons_succ, i64_w, i32_w]
    rfl
   refine pure_ (i := 12) (N := some 29) (v := ?_) (a' := ?_) #[true, false, true, false, false, true, false, true, false, false, true, false, true, false, false, false, false, false, false, false] rfl rfl (any_of HT_.out (by kernel_rfl)) (fun _ _ _ h => h) (Or.inl ⟨by rfl, ?_⟩) ?_ ?_
   rotate_left
   ·intro w'
    go_simp
    with_reducible rfl
   rotate_left
   ·simp only [Act.put, List.setIfInBounds_toArray, List.set_cons_zero, List.set_cons_succ, i64_w, i32_w]
    rfl
   refine take_ (i := 1) (N := some 18) (v := ?_) (a' := ?_) #[true, true, true, false, false, true, false, true, false, false, true, false, true, false, false, false, false, false, false, false] rfl rfl (take_ofW HT_.out HW_.out (by kernel_rfl)) (fun _ _ _ h => h) (Or.inl ⟨by rfl, ?_⟩) hHeld ?_ ?_
   rotate_left
   ·rintro w' ⟨s0, s1, s2, s3, s4, s5⟩
    go_simp
    with_reducible rfl
   rotate_left
   ·simp only [Act.put, List.setIfInBounds_toArray, List.set_cons_zero, List.set_cons_succ, i64_w, i32_w]
    rfl
   refine take_ (i := 3) (N := some 20) (v := ?_) (a' := ?_) #[true, true, true, true, false, true, false, true, false, false, true, false, true, false, false, false, false, false, false, false] rfl rfl (take_ofW HT_.out HW_.out (by kernel_rfl)) (fun _ _ _ h => h) (Or.inl ⟨by rfl, ?_⟩) hHeld ?_ ?_
   rotate_left
   ·rintro w' ⟨s0, s1, s2, s3, s4, s5⟩
    go_simp
    with_reducible rfl
   rotate_left
   ·simp only [Act.put, List.setIfInBounds_toArray, List.set_cons_zero, List.set_cons_succ, i64_w, i32_w]
    rfl
   refine pure_ (i := 4) (N := some 21) (v := ?_) (a' := ?_) #[true, true, true, true, true, true, false, true, false, false, true, false, true, false, false, false, false, false, false, false] rfl rfl (any_of HT_.out (by kernel_rfl)) (fun _ _ _ h => h) (Or.inl ⟨by rfl, ?_⟩) ?_ ?_
   rotate_left
   ·intro w'
    go_simp
    with_reducible rfl
   rotate_left
   ·simp only [Act.put, List.setIfInBounds_toArray, List.set_cons_zero, List.set_cons_succ, i64_w, i32_w]
    rfl
   refine take_ (i := 6) (N := some 23) (v := ?_) (a' := ?_) #[true, true, true, true, true, true, true, true, false, false, true, false, true, false, false, false, false, false, false, false] rfl rfl (take_ofW HT_.out HW_.out (by kernel_rfl)) (fun _ _ _ h => h) (Or.inl ⟨by rfl, ?_⟩) hHeld ?_ ?_
   rotate_left
   ·rintro w' ⟨s0, s1, s2, s3, s4, s5⟩
    go_simp
    with_reducible rfl
   rotate_left
   ·simp only [Act.put, List.setIfInBounds_toArray, List.set_cons_zero, List.set_cons_succ, i64_w, i32_w]
    rfl
   refine take_ (i := 8) (N := some 25) (v := ?_) (a' := ?_) #[true, true, true, true, true, true, true, true, true, false, true, false, true, false, false, false, false, false, false, false] rfl rfl (take_ofW HT_.out HW_.out (by kernel_rfl)) (fun _ _ _ h => h) (Or.inl ⟨by rfl, ?_⟩) hHeld ?_ ?_
   rotate_left
   ·rintro w' ⟨s0, s1, s2, s3, s4, s5⟩
    go_simp
    with_reducible rfl
   rotate_left
   ·simp only [Act.put, List.setIfInBounds_toArray, List.set_cons_zero, List.set_cons_succ, i64_w, i32_w]
    rfl
   refine take_ (i := 11) (N := some 28) (v := ?_) (a' := ?_) #[true, true, true, true, true, true, true, true, true, false, true, true, true, false, false, false, false, false, false, false] rfl rfl (take_ofW HT_.out HW_.out (by kernel_rfl)) (fun _ _ _ h => h) (Or.inl ⟨by rfl, ?_⟩) hHeld ?_ ?_
   rotate_left
   ·rintro w' ⟨s0, s1, s2, s3, s4, s5⟩
    go_simp
    with_reducible rfl
   rotate_left
   ·simp only [Act.put, List.setIfInBounds_toArray, List.set_cons_zero, List.set_cons_succ, i64_w, i32_w]
    rfl
   refine take_ (i := 13) (N := some 30) (v := ?_) (a' := ?_) #[true, true, true, true, true, true, true, true, true, false, true, true, true, true, false, false, false, false, false, false] rfl rfl (take_ofW HT_.out HW_.out (by kernel_rfl)) (fun _ _ _ h => h) (Or.inl ⟨by rfl, ?_⟩) hHeld ?_ ?_
   rotate_left
   ·rintro w' ⟨s0, s1, s2, s3, s4, s5⟩
    go_simp
    with_reducible rfl
   rotate_left
   ·simp only [Act.put, List.setIfInBounds_toArray, List.set_cons_zero, List.set_cons_succ, i64_w, i32_w]
    rfl
   refine one_ (i := 9) (N := some 26) #[true, true, true, true, true, true, true, true, true, true, true, true, true, true, false, false, false, false, false, false] rfl rfl (one_of HT_.out (by kernel_rfl)) (by decide) (fun K hK => ?_)
   refine goes_ Try.func67 (by kernel_rfl) rfl #[.slice A0_1 l0_1.length c0_1, .slice A1_2 l1_2.length c1_2] (by rfl) rfl rfl (by (try simp only [List.map_toArray, List.map_cons, List.map_nil]); first | done | rfl | (simp only [List.length_drop, List.length_take]; rfl)) ?_
   with_reducible refine (nats_Mul.calls k _ _ l0_1 _ _ l1_2 t313 _ ?side1 ?side2 ?side3 ?side4 A20.out).mono ?_
   (case side1 => exact ca ((Kd.V_reads' HO0_1.out).2.2))
   (case side2 => exact (Kd.V_reads' HO0_1.out).2.1)
   (case side3 => exact ca ((Kd.V_reads' HO1_2.out).2.2))
   (case side4 => exact (Kd.V_reads' HO1_2.out).2.1)
   rintro e w37 ⟨v314, rfl, ho0, hb⟩
   refine ⟨_, rfl, ?_⟩
   have n0_ := Aside0.mk (Kd.V_elder' (va HO0_1.out) (Kd.R_base ho0) hb)
   have n1_ := Aside0.mk (Kd.V_elder' (va HO0_2.out) (Kd.R_base ho0) hb)
   have n2_ := Aside0.mk (Kd.V_elder' (va HO1_1.out) (Kd.R_base ho0) hb)
   have n3_ := Aside0.mk (Kd.V_elder' (va HO1_2.out) (Kd.R_base ho0) hb)
   have n4_ := Aside0.mk (Kd.N_elder' (by (with_reducible repeat (first | apply Kd.N_alloc | apply Kd.N_drewN | apply Kd.N_drew)); exact HO311.out) (Kd.R_base ho0) hb)
   have n5_ := Aside0.mk (Kd.R_lower (Kd.R_newM (M := fun k_ => (w.heap.size ≤ k_)) ho0 (below_size (bl3 HB GE306 GE307 GE308)) (fun k_ h_ => h_)) (below_size (bl3 HB GE306 GE307 GE308)))
   have n6_ := Aside0.mk (blk_below (ba BK306.out) hb)
   have n7_ := Aside0.mk (blk_below (ba BK307.out) hb)
   have n8_ := Aside0.mk (blk_below (ba BK308.out) hb)
   have n9_ := Aside0.mk (below_step (bl3 HB GE306 GE307 GE308) hb)
   clear HO0_1
   clear HO0_2
   clear HO1_1
   clear HO1_2
   clear HO311
   clear BK306
   clear BK307
   clear BK308
   clear HB
   have HO0_1 := n0_
   have HO0_2 := n1_
   have HO1_1 := n2_
   have HO1_2 := n3_
   have HO311 := n4_
   have HO315 := n5_
   have BK306 := n6_
   have BK307 := n7_
   have BK308 := n8_
   have HB := n9_
   clear n0_ n1_ n2_ n3_ n4_ n5_ n6_ n7_ n8_ n9_
   (try clear hb)
   (try clear hb2)
   (try clear hk)
   (try clear hi)
   (try clear ho0)
   refine hK.out _ _ ⟨(blk_cell BK306.out 0).trans rfl, (blk_cell BK306.out 1).trans rfl, (blk_cell BK306.out 2).trans rfl, (blk_cell BK307.out 0).trans rfl, (blk_cell BK307.out 1).trans rfl, (blk_cell BK307.out 2).trans rfl⟩ (fun hHeld => ?_)
   clear hK K
   refine norm_ (a' := ?_) ?_ ?_
   rotate_left
   ·show Act.put _ (some 26) _ = _
    simp only [Act.put, List.setIfInBounds_toArray, List.set_cons_zero, List.set_cons_succ, i64_w, i32_w]
    rfl
   refine one_ (i := 14) (N := some 31) #[true, true, true, true, true, true, true, true, true, true, true, true, true, true, true, false, false, false, false, false] rfl rfl (one_of HT_.out (by kernel_rfl)) (by decide) (fun K hK => ?_)
   refine goes_ Try.func67 (by kernel_rfl) rfl #[.slice A0_2 l0_2.length c0_2, .slice A1_1 l1_1.length c1_1] (by rfl) rfl rfl (by (try simp only [List.map_toArray, List.map_cons, List.map_nil]); first | done | rfl | (simp only [List.length_drop, List.length_take]; rfl)) ?_
   with_reducible refine (nats_Mul.calls k _ _ l0_2 _ _ l1_1 t316 _ ?side1 ?side2 ?side3 ?side4 A21.out).mono ?_
   (case side1 => exact ca ((Kd.V_reads' HO0_2.out).2.2))
   (case side2 => exact (Kd.V_reads' HO0_2.out).2.1)
   (case side3 => exact ca ((Kd.V_reads' HO1_1.out).2.2))
   (case side4 => exact (Kd.V_reads' HO1_1.out).2.1)
   rintro e w38 ⟨v317, rfl, ho0, hb⟩
   refine ⟨_, rfl, ?_⟩
   have n0_ := Aside0.mk (Kd.V_elder' (va HO0_1.out) (Kd.R_base ho0) hb)
   have n1_ := Aside0.mk (Kd.V_elder' (va HO0_2.out) (Kd.R_base ho0) hb)
   have n2_ := Aside0.mk (Kd.V_elder' (va HO1_1.out) (Kd.R_base ho0) hb)
   have n3_ := Aside0.mk (Kd.V_elder' (va HO1_2.out) (Kd.R_base ho0) hb)
   have n4_ := Aside0.mk (Kd.N_elder' (by (with_reducible repeat (first | apply Kd.N_alloc | apply Kd.N_drewN | apply Kd.N_drew)); exact HO311.out) (Kd.R_base ho0) hb)
   have n5_ := Aside0.mk (Kd.R_elder' (ra HO315.out) (Kd.R_base ho0) hb)
   have n6_ := Aside0.mk (Kd.R_lower (Kd.R_new' (Kd.R_newM (M := fun k_ => (w.heap.size ≤ k_)) ho0 (below_size (bl3 HB GE306 GE307 GE308)) (fun k_ h_ => h_)) (Kd.R_lt (ra HO315.out))) (below_size (bl3 HB GE306 GE307 GE308)))
   have n7_ := Aside0.mk (blk_below (ba BK306.out) hb)
   have n8_ := Aside0.mk (blk_below (ba BK307.out) hb)
   have n9_ := Aside0.mk (blk_below (ba BK308.out) hb)
   have n10_ := Aside0.mk (below_step (bl3 HB GE306 GE307 GE308) hb)
   clear HO0_1
   clear HO0_2
   clear HO1_1
   clear HO1_2
   clear HO311
   clear HO315
   clear BK306
   clear BK307
   clear BK308
   clear HB
   have HO0_1 := n0_
   have HO0_2 := n1_
   have HO1_1 := n2_
   have HO1_2 := n3_
   have HO311 := n4_
   have HO315 := n5_
   have HO318 := n6_
   have BK306 := n7_
   have BK307 := n8_
   have BK308 := n9_
   have HB := n10_
   clear n0_ n1_ n2_ n3_ n4_ n5_ n6_ n7_ n8_ n9_ n10_
   (try clear hb)
   (try clear hb2)
   (try clear hk)
   (try clear hi)
   (try clear ho0)
   obtain ⟨Ao39, co39, eo39⟩ := Kd.R_slice HO315.out
   (first | subst eo39 | (injection eo39 with f1_ f2_ f3_; have f4_ := f1_.symm; have f5_ := f3_.symm; clear f1_ f2_ f3_; subst f4_; subst f5_))
   obtain ⟨Ao40, co40, eo40⟩ := Kd.R_slice HO318.out
   (first | subst eo40 | (injection eo40 with f1_ f2_ f3_; have f4_ := f1_.symm; have f5_ := f3_.symm; clear f1_ f2_ f3_; subst f4_; subst f5_))
   refine hK.out _ _ ⟨(blk_cell BK306.out 0).trans rfl, (blk_cell BK306.out 1).trans rfl, (blk_cell BK306.out 2).trans rfl, (blk_cell BK307.out 0).trans rfl, (blk_cell BK307.out 1).trans rfl, (blk_cell BK307.out 2).trans rfl⟩ (fun hHeld => ?_)
   clear hK K
   refine norm_ (a' := ?_) ?_ ?_
   rotate_left
   ·show Act.put _ (some 31) _ = _
    simp only [Act.put, List.setIfInBounds_toArray, List.set_cons_zero, List.set_cons_succ, i64_w, i32_w]
    rfl
   refine one_ (i := 15) (N := some 32) #[true, true, true, true, true, true, true, true, true, true, true, true, true, true, true, true, false, false, false, false] rfl rfl (one_of HT_.out (by kernel_rfl)) (by decide) (fun K hK => ?_)
   refine goes_ Try.func66 (by kernel_rfl) rfl #[.bool (a0_0 != a1_0), .slice Ao39 t313.length co39, .slice Ao40 t316.length co40] (by rfl) rfl rfl (by (try simp only [List.map_toArray, List.map_cons, List.map_nil]); first | done | rfl | (simp only [List.length_drop, List.length_take]; rfl)) ?_
   with_reducible refine (ratio_Make.calls k (a0_0 != a1_0) _ _ t313 _ _ t316 t319 t320 t323 t326 _ ?side1 ?side2 ?side3 ?side4 A22.out).mono ?_
   (case side1 => exact ca ((Kd.R_reads' HO315.out).2.2))
   (case side2 => exact (Kd.R_reads' HO315.out).2.1)
   (case side3 => exact ca ((Kd.R_reads' HO318.out).2.2))
   (case side4 => exact (Kd.R_reads' HO318.out).2.1)
   rintro e w41 ⟨v321, v324, rfl, ho0, ho1, hb⟩
   refine ⟨_, rfl, ?_⟩
   have n0_ := Aside0.mk (Kd.V_mono (Kd.V_told (Kd.V_told (Kd.V_old (va HO0_1.out) hb) (Kd.R_base ho0)) (Kd.R_base ho1)) (fun _ h_ => h_.1))
   have n1_ := Aside0.mk (Kd.V_mono (Kd.V_told (Kd.V_told (Kd.V_old (va HO0_2.out) hb) (Kd.R_base ho0)) (Kd.R_base ho1)) (fun _ h_ => h_.1))
   have n2_ := Aside0.mk (Kd.V_mono (Kd.V_told (Kd.V_told (Kd.V_old (va HO1_1.out) hb) (Kd.R_base ho0)) (Kd.R_base ho1)) (fun _ h_ => h_.1))
   have n3_ := Aside0.mk (Kd.V_mono (Kd.V_told (Kd.V_told (Kd.V_old (va HO1_2.out) hb) (Kd.R_base ho0)) (Kd.R_base ho1)) (fun _ h_ => h_.1))
   have n4_ := Aside0.mk (Kd.N_mono (Kd.N_told (Kd.N_told (Kd.N_old (by (with_reducible repeat (first | apply Kd.N_alloc | apply Kd.N_drewN | apply Kd.N_drew)); exact HO311.out) hb) (Kd.R_base ho0)) (Kd.R_base ho1)) (fun _ h_ => h_.1))
   have n5_ := Aside0.mk (Kd.R_mono (Kd.R_told (Kd.R_told (Kd.R_old (ra HO315.out) hb) (Kd.R_base ho0)) (Kd.R_base ho1)) (fun _ h_ => h_.1))
   have n6_ := Aside0.mk (Kd.R_mono (Kd.R_told (Kd.R_told (Kd.R_old (ra HO318.out) hb) (Kd.R_base ho0)) (Kd.R_base ho1)) (fun _ h_ => h_.1))
   have n7_ := Aside0.mk (Kd.R_lower (Kd.R_new' (Kd.R_new' (Kd.R_newM (M := fun k_ => (w.heap.size ≤ k_)) ho0 (below_size (bl3 HB GE306 GE307 GE308)) (fun k_ h_ => h_)) (Kd.R_lt (ra HO315.out))) (Kd.R_lt (ra HO318.out))) (below_size (bl3 HB GE306 GE307 GE308)))
   have n8_ := Aside0.mk (Kd.R_lower (Kd.R_new' (Kd.R_new' (Kd.R_newM (M := fun k_ => (w.heap.size ≤ k_)) ho1 (below_size (bl3 HB GE306 GE307 GE308)) (fun k_ h_ => h_)) (Kd.R_lt (ra HO315.out))) (Kd.R_lt (ra HO318.out))) (below_size (bl3 HB GE306 GE307 GE308)))
   have n9_ := Aside0.mk (blk_below (ba BK306.out) hb)
   have n10_ := Aside0.mk (blk_below (ba BK307.out) hb)
   have n11_ := Aside0.mk (blk_below (ba BK308.out) hb)
   have n12_ := Aside0.mk (below_step (bl3 HB GE306 GE307 GE308) hb)
   clear HO0_1
   clear HO0_2
   clear HO1_1
   clear HO1_2
   clear HO311
   clear HO315
   clear HO318
   clear BK306
   clear BK307
   clear BK308
   clear HB
   have HO0_1 := n0_
   have HO0_2 := n1_
   have HO1_1 := n2_
   have HO1_2 := n3_
   have HO311 := n4_
   have HO315 := n5_
   have HO318 := n6_
   have HO322 := n7_
   have HO325 := n8_
   have BK306 := n9_
   have BK307 := n10_
   have BK308 := n11_
   have HB := n12_
   clear n0_ n1_ n2_ n3_ n4_ n5_ n6_ n7_ n8_ n9_ n10_ n11_ n12_
   (try clear hb)
   (try clear hb2)
   (try clear hk)
   (try clear hi)
   (try clear ho0)
   (try clear ho1)
   obtain ⟨Ao43, co43, eo43⟩ := Kd.R_slice HO322.out
   (first | subst eo43 | (injection eo43 with f1_ f2_ f3_; have f4_ := f1_.symm; have f5_ := f3_.symm; clear f1_ f2_ f3_; subst f4_; subst f5_))
   obtain ⟨Ao45, co45, eo45⟩ := Kd.R_slice HO325.out
   (first | subst eo45 | (injection eo45 with f1_ f2_ f3_; have f4_ := f1_.symm; have f5_ := f3_.symm; clear f1_ f2_ f3_; subst f4_; subst f5_))
   refine hK.out _ _ ⟨(blk_cell BK306.out 0).trans rfl, (blk_cell BK306.out 1).trans rfl, (blk_cell BK306.out 2).trans rfl, (blk_cell BK307.out 0).trans rfl, (blk_cell BK307.out 1).trans rfl, (blk_cell BK307.out 2).trans rfl⟩ (fun hHeld => ?_)
   clear hK K
   refine norm_ (a' := ?_) ?_ ?_
   rotate_left
   ·show Act.put _ (some 32) _ = _
    simp only [Act.put, List.setIfInBounds_toArray, List.set_cons_zero, List.set_cons_succ, i64_w, i32_w]
    rfl
   refine pure_ (i := 16) (N := some 33) (v := ?_) (a' := ?_) #[true, true, true, true, true, true, true, true, true, true, true, true, true, true, true, true, true, false, false, false] rfl rfl (any_of HT_.out (by kernel_rfl)) (fun _ _ _ h => h) (Or.inl ⟨by rfl, ?_⟩) ?_ ?_
   rotate_left
   ·intro w'
    go_simp
    with_reducible rfl
   rotate_left
   ·simp only [Act.put, List.setIfInBounds_toArray, List.set_cons_zero, List.set_cons_succ, i64_w, i32_w]
    rfl
   refine pure_ (i := 17) (N := some 34) (v := ?_) (a' := ?_) #[true, true, true, true, true, true, true, true, true, true, true, true, true, true, true, true, true, true, false, false] rfl rfl (any_of HT_.out (by kernel_rfl)) (fun _ _ _ h => h) (Or.inl ⟨by rfl, ?_⟩) ?_ ?_
   rotate_left
   ·intro w'
    go_simp
    with_reducible rfl
   rotate_left
   ·simp only [Act.put, List.setIfInBounds_toArray, List.set_cons_zero, List.set_cons_succ, i64_w, i32_w]
    rfl
   refine one_ (i := 18) (N := none) #[true, true, true, true, true, true, true, true, true, true, true, true, true, true, true, true, true, true, true, false] rfl rfl (one_of HT_.out (by kernel_rfl)) (by decide) (fun K hK => ?_)
   have hs42 : w41.cell? ⟨gb308, 0, none⟩ = some (.bool false) := (blk_cell BK308.out 0).trans rfl
   have hfs42 := blk_frozen BK308.out 0
   have hns42_0 := NB306_308.out
   have hns42_1 := NB307_308.out
   have hms42_0 := NB308_306.out
   have hms42_1 := NB308_307.out
   have hs44 : w41.cell? ⟨gb308, 1, none⟩ = some (.slice none 0 0) := (blk_cell BK308.out 1).trans rfl
   have hfs44 := blk_frozen BK308.out 1
   have hns44_0 := NB306_308.out
   have hns44_1 := NB307_308.out
   have hms44_0 := NB308_306.out
   have hms44_1 := NB308_307.out
   have hs46 : w41.cell? ⟨gb308, 2, none⟩ = some (.slice none 0 0) := (blk_cell BK308.out 2).trans rfl
   have hfs46 := blk_frozen BK308.out 2
   have hns46_0 := NB306_308.out
   have hns46_1 := NB307_308.out
   have hms46_0 := NB308_306.out
   have hms46_1 := NB308_307.out
   refine skip_ (w1 := ?_) (by rfl) rfl ?_ ?_
   rotate_left
   ·go_simp
    rfl
   refine hK.out _ _ ⟨((cell_far (p := ⟨gb308, _, none⟩) NB306_308.out _).trans (((cell_far (p := ⟨gb308, _, none⟩) NB306_308.out _).trans (((cell_far (p := ⟨gb308, _, none⟩) NB306_308.out _).trans (hHeld.1)))))), ((cell_far (p := ⟨gb308, _, none⟩) NB306_308.out _).trans (((cell_far (p := ⟨gb308, _, none⟩) NB306_308.out _).trans (((cell_far (p := ⟨gb308, _, none⟩) NB306_308.out _).trans (hHeld.2.1)))))), ((cell_far (p := ⟨gb308, _, none⟩) NB306_308.out _).trans (((cell_far (p := ⟨gb308, _, none⟩) NB306_308.out _).trans (((cell_far (p := ⟨gb308, _, none⟩) NB306_308.out _).trans (hHeld.2.2.1)))))), ((cell_far (p := ⟨gb308, _, none⟩) NB307_308.out _).trans (((cell_far (p := ⟨gb308, _, none⟩) NB307_308.out _).trans (((cell_far (p := ⟨gb308, _, none⟩) NB307_308.out _).trans (hHeld.2.2.2.1)))))), ((cell_far (p := ⟨gb308, _, none⟩) NB307_308.out _).trans (((cell_far (p := ⟨gb308, _, none⟩) NB307_308.out _).trans (((cell_far (p := ⟨gb308, _, none⟩) NB307_308.out _).trans (hHeld.2.2.2.2.1)))))), ((cell_far (p := ⟨gb308, _, none⟩) NB307_308.out _).trans (((cell_far (p := ⟨gb308, _, none⟩) NB307_308.out _).trans (((cell_far (p := ⟨gb308, _, none⟩) NB307_308.out _).trans (hHeld.2.2.2.2.2))))))⟩ (fun hHeld => ?_)
   clear hK K
   refine pure_ (i := 19) (N := some 5) (v := ?_) (a' := ?_) #[true, true, true, true, true, true, true, true, true, true, true, true, true, true, true, true, true, true, true, true] rfl rfl (any_of HT_.out (by kernel_rfl)) (fun _ _ _ h => h) (Or.inl ⟨by rfl, ?_⟩) ?_ ?_
   rotate_left
   ·intro w'
    go_simp
    with_reducible rfl
   rotate_left
   ·simp only [Act.put, List.setIfInBounds_toArray, List.set_cons_zero, List.set_cons_succ, i64_w, i32_w]
    rfl
   refine done_ (done_of HT_.out (by kernel_rfl)) ?_
   try go_wp2
   refine bodyPost_ret (results_ct rfl _ _ gb308 36 #[.bool t319, .slice Ao43 t320.length co43, .slice Ao45 t323.length co45] (0, 0) _ rfl (by exact bp BK308.out rfl) Try.underlying36 rfl (by kernel_rfl)) rfl ?_
   exact ⟨_, _, by first | rfl | simp [*], ra (Kd.R_mono (Kd.R_far (p := ⟨gb308, 2, none⟩) (Kd.R_far (p := ⟨gb308, 1, none⟩) (Kd.R_far (p := ⟨gb308, 0, none⟩) (Kd.R_types HO322.out BK308.out (by decide)) (fun _ hk => hk.2) (.bool t319)) (fun _ hk => hk.2) (.slice Ao43 t320.length co43)) (fun _ hk => hk.2) (.slice Ao45 t323.length co45)) (fun _ hk => ⟨hk.1.1.1.1, hk.1.1.1.2⟩)), ra (Kd.R_mono (Kd.R_far (p := ⟨gb308, 2, none⟩) (Kd.R_far (p := ⟨gb308, 1, none⟩) (Kd.R_far (p := ⟨gb308, 0, none⟩) (Kd.R_types HO325.out BK308.out (by decide)) (fun _ hk => hk.2) (.bool t319)) (fun _ hk => hk.2) (.slice Ao43 t320.length co43)) (fun _ hk => hk.2) (.slice Ao45 t323.length co45)) (fun _ hk => ⟨hk.1.1.1.1, hk.1.1.1.2⟩)), bl3 HB GE306 GE307 GE308⟩
 ·replace c4 := Bool.eq_false_iff.mpr c4
  subst c4
  have H1 : (some (false, ([] : List Int), ([] : List Int), 20)) = some (r1, r2, r3, r4) := by rw [if_neg (show ¬ (false = true) by decide)] at H; exact H
  clear H
  have H := H1
  clear H1
  simp only [Option.some.injEq, Prod.mk.injEq] at H
  obtain ⟨rfl, rfl, rfl, rfl⟩ := H
  go_enter Try.func33, Try.ntmps33
  go_wp2_with (first | ((with_reducible refine gate_dst (N := 2) rfl ?_); refine box_event ?hg (N := 2) ?hd (cs := #[.bool a0_0, .slice A0_1 l0_1.length c0_1, .slice A0_2 l0_2.length c0_2]) (t := 36) ?hr ?_; (case hd => rfl); (case hg => rfl); (case hr => first | (go_simp; done) | (go_simp; rfl)); intro gb306 hg w47 hbox hb; have n0_ := Aside0.mk (Kd.V_below (Kd.V_elderB (va HO0_1.out) gb306 (Nat.le_of_eq hg.symm)) hb); have n1_ := Aside0.mk (Kd.V_below (Kd.V_elderB (va HO0_2.out) gb306 (Nat.le_of_eq hg.symm)) hb); have n2_ := Aside0.mk (Kd.V_below (Kd.V_elderB (va HO1_1.out) gb306 (Nat.le_of_eq hg.symm)) hb); have n3_ := Aside0.mk (Kd.V_below (Kd.V_elderB (va HO1_2.out) gb306 (Nat.le_of_eq hg.symm)) hb); have n4_ := Aside0.mk (below_step (bl HB) hb); have n5_ := Aside0.mk (hbox); have n6_ := Aside0.mk ((by rw [hg]; exact (below_size (bl HB)) : w.heap.size ≤ gb306)); have n7_ := Aside0.mk ((by rw [hg]; exact (below_size (bl HB)) : w.heap.size ≤ gb306)); clear HO0_1; clear HO0_2; clear HO1_1; clear HO1_2; clear HB; have HO0_1 := n0_; have HO0_2 := n1_; have HO1_1 := n2_; have HO1_2 := n3_; have HB := n4_; have BK306 := n5_; have GW306 := n6_; have GE306 := n7_; clear n0_ n1_ n2_ n3_ n4_ n5_ n6_ n7_; clear hb hbox hg) | ((with_reducible refine gate_dst (N := 3) rfl ?_); refine box_event ?hg (N := 3) ?hd (cs := #[.bool a1_0, .slice A1_1 l1_1.length c1_1, .slice A1_2 l1_2.length c1_2]) (t := 36) ?hr ?_; (case hd => rfl); (case hg => rfl); (case hr => first | (go_simp; done) | (go_simp; rfl)); intro gb307 hg w48 hbox hb; have n0_ := Aside0.mk (Kd.V_below (Kd.V_elderB (va HO0_1.out) gb307 (Nat.le_of_eq hg.symm)) hb); have n1_ := Aside0.mk (Kd.V_below (Kd.V_elderB (va HO0_2.out) gb307 (Nat.le_of_eq hg.symm)) hb); have n2_ := Aside0.mk (Kd.V_below (Kd.V_elderB (va HO1_1.out) gb307 (Nat.le_of_eq hg.symm)) hb); have n3_ := Aside0.mk (Kd.V_below (Kd.V_elderB (va HO1_2.out) gb307 (Nat.le_of_eq hg.symm)) hb); have n4_ := Aside0.mk (blk_below (ba BK306.out) hb); have n5_ := Aside0.mk (below_step (bl1 HB GE306) hb); have n6_ := Aside0.mk (hbox); have n7_ := Aside0.mk ((by rw [hg]; exact (below_size (bl1 HB GE306)) : w.heap.size ≤ gb307)); have n8_ := Aside0.mk ((by rw [hg]; exact (below_size (bl1 HB GE306)) : w.heap.size ≤ gb307)); have n9_ := Aside0.mk ((by rw [hg]; exact Nat.ne_of_lt (blk_lt (g := gb306) (o := .cells #[.bool a0_0, .slice A0_1 l0_1.length c0_1, .slice A0_2 l0_2.length c0_2] 36 (0, 0)) (ba BK306.out)) : gb306 ≠ gb307)); have n10_ := Aside0.mk ((by rw [hg]; exact Nat.ne_of_gt (blk_lt (g := gb306) (o := .cells #[.bool a0_0, .slice A0_1 l0_1.length c0_1, .slice A0_2 l0_2.length c0_2] 36 (0, 0)) (ba BK306.out)) : gb307 ≠ gb306)); clear HO0_1; clear HO0_2; clear HO1_1; clear HO1_2; clear BK306; clear HB; have HO0_1 := n0_; have HO0_2 := n1_; have HO1_1 := n2_; have HO1_2 := n3_; have BK306 := n4_; have HB := n5_; have BK307 := n6_; have GW307 := n7_; have GE307 := n8_; have NB306_307 := n9_; have NB307_306 := n10_; clear n0_ n1_ n2_ n3_ n4_ n5_ n6_ n7_ n8_ n9_ n10_; clear hb hbox hg) | ((with_reducible refine gate_dst (N := 4) rfl ?_); refine box_event ?hg (N := 4) ?hd (cs := #[.bool false, .slice none 0 0, .slice none 0 0]) (t := 36) ?hr ?_; (case hd => rfl); (case hg => rfl); (case hr => first | (go_simp; done) | (go_simp; rfl)); intro gb308 hg w49 hbox hb; have n0_ := Aside0.mk (Kd.V_below (Kd.V_elderB (va HO0_1.out) gb308 (Nat.le_of_eq hg.symm)) hb); have n1_ := Aside0.mk (Kd.V_below (Kd.V_elderB (va HO0_2.out) gb308 (Nat.le_of_eq hg.symm)) hb); have n2_ := Aside0.mk (Kd.V_below (Kd.V_elderB (va HO1_1.out) gb308 (Nat.le_of_eq hg.symm)) hb); have n3_ := Aside0.mk (Kd.V_below (Kd.V_elderB (va HO1_2.out) gb308 (Nat.le_of_eq hg.symm)) hb); have n4_ := Aside0.mk (blk_below (ba BK306.out) hb); have n5_ := Aside0.mk (blk_below (ba BK307.out) hb); have n6_ := Aside0.mk (below_step (bl2 HB GE306 GE307) hb); have n7_ := Aside0.mk (hbox); have n8_ := Aside0.mk ((by rw [hg]; exact (below_size (bl2 HB GE306 GE307)) : w.heap.size ≤ gb308)); have n9_ := Aside0.mk ((by rw [hg]; exact (below_size (bl2 HB GE306 GE307)) : w.heap.size ≤ gb308)); have n10_ := Aside0.mk ((by rw [hg]; exact Nat.ne_of_lt (blk_lt (g := gb306) (o := .cells #[.bool a0_0, .slice A0_1 l0_1.length c0_1, .slice A0_2 l0_2.length c0_2] 36 (0, 0)) (ba BK306.out)) : gb306 ≠ gb308)); have n11_ := Aside0.mk ((by rw [hg]; exact Nat.ne_of_gt (blk_lt (g := gb306) (o := .cells #[.bool a0_0, .slice A0_1 l0_1.length c0_1, .slice A0_2 l0_2.length c0_2] 36 (0, 0)) (ba BK306.out)) : gb308 ≠ gb306)); have n12_ := Aside0.mk ((by rw [hg]; exact Nat.ne_of_lt (blk_lt (g := gb307) (o := .cells #[.bool a1_0, .slice A1_1 l1_1.length c1_1, .slice A1_2 l1_2.length c1_2] 36 (0, 0)) (ba BK307.out)) : gb307 ≠ gb308)); have n13_ := Aside0.mk ((by rw [hg]; exact Nat.ne_of_gt (blk_lt (g := gb307) (o := .cells #[.bool a1_0, .slice A1_1 l1_1.length c1_1, .slice A1_2 l1_2.length c1_2] 36 (0, 0)) (ba BK307.out)) : gb308 ≠ gb307)); clear HO0_1; clear HO0_2; clear HO1_1; clear HO1_2; clear BK306; clear BK307; clear HB; have HO0_1 := n0_; have HO0_2 := n1_; have HO1_1 := n2_; have HO1_2 := n3_; have BK306 := n4_; have BK307 := n5_; have HB := n6_; have BK308 := n7_; have GW308 := n8_; have GE308 := n9_; have NB306_308 := n10_; have NB308_306 := n11_; have NB307_308 := n12_; have NB308_307 := n13_; clear n0_ n1_ n2_ n3_ n4_ n5_ n6_ n7_ n8_ n9_ n10_ n11_ n12_ n13_; clear hb hbox hg; have hnb50 := NB306_307.out; have hnc50 := NB307_306.out; have hnb51 := NB306_308.out; have hnc51 := NB308_306.out; obtain ⟨hcz52_0, hcz52_1, hcz52_2, hfz52_0, hfz52_1, hfz52_2⟩ := blk3 BK306.out; have hnb53 := NB307_308.out; have hnc53 := NB308_307.out; obtain ⟨hcz54_0, hcz54_1, hcz54_2, hfz54_0, hfz54_1, hfz54_2⟩ := blk3 BK307.out) | ((with_reducible refine gate_dst (N := 8) rfl ?_); refine Kd.N_lit k36 _ 36 ?hg (N' := 8) ?hd (xs := ([(⟨a0_0, l0_1, l0_2⟩ : S36), (⟨a1_0, l1_1, l1_2⟩ : S36)] : List (S36))) (inner := [.bool a0_0, .slice A0_1 l0_1.length c0_1, .slice A0_2 l0_2.length c0_2, .bool a1_0, .slice A1_1 l1_1.length c1_1, .slice A1_2 l1_2.length c1_2]) (ok := (fun k_ => ((P0_1_ k_ ∨ P0_2_ k_ ∨ P1_1_ k_ ∨ P1_2_ k_) ∨ w.heap.size ≤ k_) ∧ k_ ≠ gb306 ∧ k_ ≠ gb307 ∧ k_ ≠ gb308)) (okp := (fun k_ => ((P0_1_ k_ ∨ P0_2_ k_ ∨ P1_1_ k_ ∨ P1_2_ k_) ∨ w.heap.size ≤ k_) ∧ k_ ≠ gb306 ∧ k_ ≠ gb307 ∧ k_ ≠ gb308)) ?hr ?hp (fun _ hk => hk) ((show ∀ k_, w49.heap.size ≤ k_ → (fun k_ => ((P0_1_ k_ ∨ P0_2_ k_ ∨ P1_1_ k_ ∨ P1_2_ k_) ∨ w.heap.size ≤ k_) ∧ k_ ≠ gb306 ∧ k_ ≠ gb307 ∧ k_ ≠ gb308) k_ from fun k_ hk => ⟨(.inr (Nat.le_trans (below_size (bl3 HB GE306 GE307 GE308)) hk)), Kd.freshB (g := gb306) (o := .cells #[.bool a0_0, .slice A0_1 l0_1.length c0_1, .slice A0_2 l0_2.length c0_2] 36 (0, 0)) (ba BK306.out) k_ hk, Kd.freshB (g := gb307) (o := .cells #[.bool a1_0, .slice A1_1 l1_1.length c1_1, .slice A1_2 l1_2.length c1_2] 36 (0, 0)) (ba BK307.out) k_ hk, Kd.freshB (g := gb308) (o := .cells #[.bool false, .slice none 0 0, .slice none 0 0] 36 (0, 0)) (ba BK308.out) k_ hk⟩) _ (Nat.le_refl _)) (Below.refl _ _) (Nat.le_refl _) (by simp) ?_; (case hd => rfl); (case hg => rfl); (case hr => first | (go_simp; done) | (go_simp; rfl)); (case hp => exact (Reps.c3 (show Kd.FK k36 _ _ (⟨a0_0, l0_1, l0_2⟩ : S36) [.bool a0_0, .slice A0_1 l0_1.length c0_1, .slice A0_2 l0_2.length c0_2] from (k36_mkF _ _ (⟨a0_0, l0_1, l0_2⟩ : S36) (Kd.V_reads' (Kd.V_mono (ok' := (fun k_ => ((P0_1_ k_ ∨ P0_2_ k_ ∨ P1_1_ k_ ∨ P1_2_ k_) ∨ w.heap.size ≤ k_) ∧ k_ ≠ gb306 ∧ k_ ≠ gb307 ∧ k_ ≠ gb308)) (HO0_1.out) (fun k_ hk => ⟨hk.1.1.1, ⟨hk.1.1.2, ⟨hk.1.2, hk.2⟩⟩⟩))).2.1 (Kd.V_F (Kd.V_mono (ok' := (fun k_ => ((P0_1_ k_ ∨ P0_2_ k_ ∨ P1_1_ k_ ∨ P1_2_ k_) ∨ w.heap.size ≤ k_) ∧ k_ ≠ gb306 ∧ k_ ≠ gb307 ∧ k_ ≠ gb308)) (HO0_1.out) (fun k_ hk => ⟨hk.1.1.1, ⟨hk.1.1.2, ⟨hk.1.2, hk.2⟩⟩⟩))) (Kd.V_reads' (Kd.V_mono (ok' := (fun k_ => ((P0_1_ k_ ∨ P0_2_ k_ ∨ P1_1_ k_ ∨ P1_2_ k_) ∨ w.heap.size ≤ k_) ∧ k_ ≠ gb306 ∧ k_ ≠ gb307 ∧ k_ ≠ gb308)) (HO0_2.out) (fun k_ hk => ⟨hk.1.1.1, ⟨hk.1.1.2, ⟨hk.1.2, hk.2⟩⟩⟩))).2.1 (Kd.V_F (Kd.V_mono (ok' := (fun k_ => ((P0_1_ k_ ∨ P0_2_ k_ ∨ P1_1_ k_ ∨ P1_2_ k_) ∨ w.heap.size ≤ k_) ∧ k_ ≠ gb306 ∧ k_ ≠ gb307 ∧ k_ ≠ gb308)) (HO0_2.out) (fun k_ hk => ⟨hk.1.1.1, ⟨hk.1.1.2, ⟨hk.1.2, hk.2⟩⟩⟩))))) (Reps.c3 (show Kd.FK k36 _ _ (⟨a1_0, l1_1, l1_2⟩ : S36) [.bool a1_0, .slice A1_1 l1_1.length c1_1, .slice A1_2 l1_2.length c1_2] from (k36_mkF _ _ (⟨a1_0, l1_1, l1_2⟩ : S36) (Kd.V_reads' (Kd.V_mono (ok' := (fun k_ => ((P0_1_ k_ ∨ P0_2_ k_ ∨ P1_1_ k_ ∨ P1_2_ k_) ∨ w.heap.size ≤ k_) ∧ k_ ≠ gb306 ∧ k_ ≠ gb307 ∧ k_ ≠ gb308)) (HO1_1.out) (fun k_ hk => ⟨hk.1.1.1, ⟨hk.1.1.2, ⟨hk.1.2, hk.2⟩⟩⟩))).2.1 (Kd.V_F (Kd.V_mono (ok' := (fun k_ => ((P0_1_ k_ ∨ P0_2_ k_ ∨ P1_1_ k_ ∨ P1_2_ k_) ∨ w.heap.size ≤ k_) ∧ k_ ≠ gb306 ∧ k_ ≠ gb307 ∧ k_ ≠ gb308)) (HO1_1.out) (fun k_ hk => ⟨hk.1.1.1, ⟨hk.1.1.2, ⟨hk.1.2, hk.2⟩⟩⟩))) (Kd.V_reads' (Kd.V_mono (ok' := (fun k_ => ((P0_1_ k_ ∨ P0_2_ k_ ∨ P1_1_ k_ ∨ P1_2_ k_) ∨ w.heap.size ≤ k_) ∧ k_ ≠ gb306 ∧ k_ ≠ gb307 ∧ k_ ≠ gb308)) (HO1_2.out) (fun k_ hk => ⟨hk.1.1.1, ⟨hk.1.1.2, ⟨hk.1.2, hk.2⟩⟩⟩))).2.1 (Kd.V_F (Kd.V_mono (ok' := (fun k_ => ((P0_1_ k_ ∨ P0_2_ k_ ∨ P1_1_ k_ ∨ P1_2_ k_) ∨ w.heap.size ≤ k_) ∧ k_ ≠ gb306 ∧ k_ ≠ gb307 ∧ k_ ≠ gb308)) (HO1_2.out) (fun k_ hk => ⟨hk.1.1.1, ⟨hk.1.1.2, ⟨hk.1.2, hk.2⟩⟩⟩))))) (Reps.none _ _)))); intro v310 w55 ho56 hb hg_ hnew_; clear hg_ hnew_; (first | rw [← Ny309.out] at ho56 | (simp only [Int.reduceToNat] at ho56; rw [← Ny309.out] at ho56)); have n0_ := Aside0.mk (Kd.V_elder' (va HO0_1.out) (Kd.N_base ho56) hb); have n1_ := Aside0.mk (Kd.V_elder' (va HO0_2.out) (Kd.N_base ho56) hb); have n2_ := Aside0.mk (Kd.V_elder' (va HO1_1.out) (Kd.N_base ho56) hb); have n3_ := Aside0.mk (Kd.V_elder' (va HO1_2.out) (Kd.N_base ho56) hb); have n4_ := Aside0.mk (Kd.N_lower ho56 (below_size (bl3 HB GE306 GE307 GE308))); have n5_ := Aside0.mk (blk_below (ba BK306.out) hb); have n6_ := Aside0.mk (blk_below (ba BK307.out) hb); have n7_ := Aside0.mk (blk_below (ba BK308.out) hb); have n8_ := Aside0.mk (below_step (bl3 HB GE306 GE307 GE308) hb); clear HO0_1; clear HO0_2; clear HO1_1; clear HO1_2; clear BK306; clear BK307; clear BK308; clear HB; have HO0_1 := n0_; have HO0_2 := n1_; have HO1_1 := n2_; have HO1_2 := n3_; have HO311 := n4_; have BK306 := n5_; have BK307 := n6_; have BK308 := n7_; have HB := n8_; clear n0_ n1_ n2_ n3_ n4_ n5_ n6_ n7_ n8_; clear hb ho56; obtain ⟨Ao57, co57, eo57⟩ := Kd.N_slice HO311.out; subst eo57) | ((with_reducible refine gate_callee (f := 65) rfl ?_); refine goesM (some 9) rfl rfl Try.func65 (by kernel_rfl) rfl #[.slice Ao57 y309.length co57] rfl (by rfl) ?_; (with_reducible refine (ratio_forms.calls k _ _ y309 false _ ?side1 ?side2 A3.out).mono ?_); (case side1 => exact ca ((Kd.N_reads' HO311.out).2.2)); (case side2 => exact (Kd.N_reads' HO311.out).2.1); rintro e w58 ⟨rfl, hb⟩; refine ⟨_, rfl, ?_⟩; have n0_ := Aside0.mk (Kd.V_below (va HO0_1.out) hb); have n1_ := Aside0.mk (Kd.V_below (va HO0_2.out) hb); have n2_ := Aside0.mk (Kd.V_below (va HO1_1.out) hb); have n3_ := Aside0.mk (Kd.V_below (va HO1_2.out) hb); have n4_ := Aside0.mk (Kd.N_below (by (with_reducible repeat (first | apply Kd.N_alloc | apply Kd.N_drewN | apply Kd.N_drew)); exact HO311.out) hb); have n5_ := Aside0.mk (blk_below (ba BK306.out) hb); have n6_ := Aside0.mk (blk_below (ba BK307.out) hb); have n7_ := Aside0.mk (blk_below (ba BK308.out) hb); have n8_ := Aside0.mk (below_step (bl3 HB GE306 GE307 GE308) hb); clear HO0_1; clear HO0_2; clear HO1_1; clear HO1_2; clear HO311; clear BK306; clear BK307; clear BK308; clear HB; have HO0_1 := n0_; have HO0_2 := n1_; have HO1_1 := n2_; have HO1_2 := n3_; have HO311 := n4_; have BK306 := n5_; have BK307 := n6_; have BK308 := n7_; have HB := n8_; clear n0_ n1_ n2_ n3_ n4_ n5_ n6_ n7_ n8_; (try clear hb); (try clear hb2); (try clear hk); (try clear hi); obtain ⟨hcz59_0, hcz59_1, hcz59_2, hfz59_0, hfz59_1, hfz59_2⟩ := blk3 BK308.out))
  refine bodyPost_ret (results_ct rfl _ _ gb308 36 #[.bool false, .slice none 0 0, .slice none 0 0] (0, 0) _ rfl (by exact bp BK308.out rfl) Try.underlying36 rfl (by kernel_rfl)) rfl ?_
  exact ⟨_, _, by first | rfl | simp [*], by first | exact Kd.R_nil _ _ _ _ _ | exact Kd.V_nil _ _ _ _ _, by first | exact Kd.R_nil _ _ _ _ _ | exact Kd.V_nil _ _ _ _ _, bl3 HB GE306 GE307 GE308⟩
def odds_Exact.l0 : Nat → List (S68) → Int → Int → Bool → List Int → List Int → Option (Bool × List Int × List Int × Int)
 | 0, _, _, _, _, _, _ => none
 | k + 1, x13, x14, x15, x337000, x337001, x337002 => if x15 < x14 then (if 0 ≤ x15 then (if x15 < (x13.length : Int) then ((ratio_Of.f k ((rd_T68 x13 x15).f0)).bind fun bt339 => ((ratio_Div.f k x337000 x337001 x337002 bt339.1 bt339.2.1 bt339.2.2).bind fun bt346 => (if bt346.2.2.2 = 0 then (odds_Exact.l0 k x13 x14 (wrap64 (x15 + 1)) bt346.1 bt346.2.1 bt346.2.2.1) else (some (false, ([] : List Int), ([] : List Int), bt346.2.2.2))))) else (none)) else (none)) else (some (x337000, x337001, x337002, 0))
def odds_Exact.f (k : Nat) (l0 : List (S68)) : Option (Bool × List Int × List Int × Int) := (odds_good.f k l0).bind fun t328 => (if t328 = true then ((ratio_Of.f k 1).bind fun bt329 => (odds_Exact.l0 k l0 (l0.length : Int) 0 bt329.1 bt329.2.1 bt329.2.2)) else (some (false, ([] : List Int), ([] : List Int), 2)))
def odds_Exact.T8 : Bool × List (List Nat × List Nat) := (true, [([], []), ([], []), ([1], [1]), ([2], [2]), ([0, 3, 3], [0, 3]), ([4], [4]), ([5], [5]), ([5], [5]), ([6, 4, 0, 1, 2, 3, 4, 5, 6], [6]), ([7, 8, 0, 1, 2, 3, 4, 5, 6, 7, 8], [7])])
def odds_Exact.B8 : List Nat := [0, 0, 2, 6, 15, 31, 63, 63, 127, 511]
theorem odds_Exact.tab8 : rtab .any (opsOf Try.f11 8) = odds_Exact.T8 := by kernel_rfl
theorem odds_Exact.bits8 : waitsOk odds_Exact.T8.2 odds_Exact.B8 = true := by kernel_rfl
set_option maxHeartbeats 8000000 in
set_option maxRecDepth 100000 in
theorem odds_Exact.calls (k : Nat) (A0 : Option Addr) (c0 : Nat) (l0 : List (S68)) (r1 : Bool) (r2 : List Int) (r3 : List Int) (r4 : Int) (w : World) (hr0 : Kd.C k68 w A0 l0.length l0) (hc0 : l0.length ≤ c0) (h : odds_Exact.f k l0 = some (r1, r2, r3, r4)) :
  Calls Try.prog 11 #[.slice A0 l0.length c0] w fun e w' => ∃ v1_ v2_ : Value, e = .returned (.tuple #[.agg #[.bool r1, v1_, v2_], .int .i64 r4]) ∧ Kd.R (Kd.int .u32) 99 w' w.heap.size (fun k_ => some k_ ≠ (v2_ : Value).ownBlock) v1_ r2 ∧ Kd.R (Kd.int .u32) 99 w' w.heap.size (fun k_ => some k_ ≠ (v1_ : Value).ownBlock) v2_ r3 ∧ Below w.heap.size w w' := by
 have hu36 := Try.underlying36
 have hu68 := Try.underlying68
 have HR0 := Aside0.mk hr0
 have HC0 := Aside0.mk hc0
 clear hr0 hc0
 have HB := Aside0.mk (Below.refl w.heap.size w)
 have H : ((odds_good.f k l0).bind fun t328 => (if t328 = true then ((ratio_Of.f k 1).bind fun bt329 => (odds_Exact.l0 k l0 (l0.length : Int) 0 bt329.1 bt329.2.1 bt329.2.2)) else (some (false, ([] : List Int), ([] : List Int), 2)))) = some (r1, r2, r3, r4) := h
 clear h
 obtain ⟨t328, A2, H⟩ := bindA H
 by_cases c3 : t328 = true
 ·subst c3
  have H1 : ((ratio_Of.f k 1).bind fun bt329 => (odds_Exact.l0 k l0 (l0.length : Int) 0 bt329.1 bt329.2.1 bt329.2.2)) = some (r1, r2, r3, r4) := by rw [if_pos rfl] at H; exact H
  clear H
  have H := H1
  clear H1
  obtain ⟨⟨t329, t330, t333⟩, A4, H⟩ := bindA H
  dsimp only at H
  have H' := Aside0.mk H
  clear H
  go_enter Try.func11, Try.ntmps11
  go_wp2_with (first | ((with_reducible refine gate_dst (N := 2) rfl ?_); refine box_event ?hg (N := 2) ?hd (cs := #[.bool false, .slice none 0 0, .slice none 0 0]) (t := 36) ?hr ?_; (case hd => rfl); (case hg => rfl); (case hr => first | (go_simp; done) | (go_simp; rfl)); intro gb327 hg w5 hbox hb; have n_ := mk4 (below_step (bl HB) hb) (hbox) ((by rw [hg]; exact (below_size (bl HB)) : w.heap.size ≤ gb327)) ((by rw [hg]; exact (below_size (bl HB)) : w.heap.size ≤ gb327)); clear HB; obtain ⟨HB, BK327, GW327, GE327⟩ := n_; clear hb hbox hg) | ((with_reducible refine gate_callee (f := 27) rfl ?_); refine goesM (some 9) rfl rfl Try.func27 (by kernel_rfl) rfl #[.slice A0 l0.length c0] rfl (by rfl) ?_; (with_reducible refine (odds_good.calls k _ _ l0 true _ ?side1 ?side2 A2.out).mono ?_); (case side1 => exact ca (Kd.C_below HR0.out HB.out)); (case side2 => exact HC0.out); rintro e w6 ⟨rfl, hb⟩; refine ⟨_, rfl, ?_⟩; have n_ := mk2 (blk_below (ba BK327.out) hb) (below_step (bl1 HB GE327) hb); clear BK327 HB; obtain ⟨BK327, HB⟩ := n_; (try clear hb); (try clear hb2); (try clear hk); (try clear hi)) | ((with_reducible refine gate_callee (f := 32) rfl ?_); refine goesM (some 12) rfl rfl Try.func32 (by kernel_rfl) rfl #[.int .i64 1] rfl (by rfl) ?_; (with_reducible refine (ratio_Of.calls k 1 t329 t330 t333 _ A4.out).mono ?_); rintro e w7 ⟨v331, v334, rfl, ho0, ho1, hb⟩; refine ⟨_, rfl, ?_⟩; have n_ := mk4 (Kd.R_lower ho0 (below_size (bl1 HB GE327))) (Kd.R_lower ho1 (below_size (bl1 HB GE327))) (blk_below (ba BK327.out) hb) (below_step (bl1 HB GE327) hb); clear BK327 HB; obtain ⟨HO332, HO335, BK327, HB⟩ := n_; (try clear hb); (try clear hb2); (try clear hk); (try clear hi); (try clear ho0); (try clear ho1)) | ((with_reducible refine gate_dst (N := 4) rfl ?_); refine box_event ?hg (N := 4) ?hd (cs := #[.bool false, .slice none 0 0, .slice none 0 0]) (t := 36) ?hr ?_; (case hd => rfl); (case hg => rfl); (case hr => first | (go_simp; done) | (go_simp; rfl)); intro gb336 hg w8 hbox hb; have n0_ := Aside0.mk (Kd.R_below (ra HO332.out) hb); have n1_ := Aside0.mk (Kd.R_below (ra HO335.out) hb); have n2_ := Aside0.mk (blk_below (ba BK327.out) hb); have n3_ := Aside0.mk (below_step (bl1 HB GE327) hb); have n4_ := Aside0.mk (hbox); have n5_ := Aside0.mk ((by rw [hg]; exact (below_size (bl1 HB GE327)) : w.heap.size ≤ gb336)); have n6_ := Aside0.mk ((by rw [hg]; exact (below_size (bl1 HB GE327)) : w.heap.size ≤ gb336)); have n7_ := Aside0.mk ((by rw [hg]; exact Nat.ne_of_lt (blk_lt (g := gb327) (o := .cells #[.bool false, .slice none 0 0, .slice none 0 0] 36 (0, 0)) (ba BK327.out)) : gb327 ≠ gb336)); have n8_ := Aside0.mk ((by rw [hg]; exact Nat.ne_of_gt (blk_lt (g := gb327) (o := .cells #[.bool false, .slice none 0 0, .slice none 0 0] 36 (0, 0)) (ba BK327.out)) : gb336 ≠ gb327)); clear HO332; clear HO335; clear BK327; clear HB; have HO332 := n0_; have HO335 := n1_; have BK327 := n2_; have HB := n3_; have BK336 := n4_; have GW336 := n5_; have GE336 := n6_; have NB327_336 := n7_; have NB336_327 := n8_; clear n0_ n1_ n2_ n3_ n4_ n5_ n6_ n7_ n8_; clear hb hbox hg; have hnb9 := NB336_327.out; have hnc9 := NB327_336.out; obtain ⟨hcz10_0, hcz10_1, hcz10_2, hfz10_0, hfz10_1, hfz10_2⟩ := blk3 BK336.out; obtain ⟨Ao11, co11, eo11⟩ := Kd.R_slice HO332.out; subst eo11; obtain ⟨Ao12, co12, eo12⟩ := Kd.R_slice HO335.out; subst eo12))
  go_loopg [15] k (fun kq v15 w' => ∃ (x15_1 : Int) (x328000_1 : Bool) (x337000_1 : Bool) (x337001_1 : List Int) (x337002_1 : List Int) (u337001 : Value) (u337002 : Value), v15 = .int .i64 x15_1 ∧ Aside0 (odds_Exact.l0 kq l0 (l0.length : Int) x15_1 x337000_1 x337001_1 x337002_1 = some (r1, r2, r3, r4)) ∧ Aside0 (kq ≤ k) ∧ Aside0 (Kd.R (Kd.int .u32) 99 w' w.heap.size (fun k_ => some k_ ≠ (u337002 : Value).ownBlock) u337001 x337001_1) ∧ Aside0 (Kd.R (Kd.int .u32) 99 w' w.heap.size (fun k_ => some k_ ≠ (u337001 : Value).ownBlock) u337002 x337002_1) ∧ Aside0 (w'.heap[gb327]? = some (.cells #[.bool x328000_1, (.slice none 0 0), (.slice none 0 0)] 36 (0, 0))) ∧ Aside0 (w'.heap[gb336]? = some (.cells #[.bool x337000_1, u337001, u337002] 36 (0, 0))) ∧ Aside0 (Below w.heap.size w w'))
  case atStart => exact ⟨(0), (false), (t329), (t330), (t333), (.slice Ao11 t330.length co11), (.slice Ao12 t333.length co12), (by first | rfl | (simp; done) | (simp [*]; done)), H', ⟨Nat.le_refl _⟩, ⟨ra (Kd.R_mono (Kd.R_far (p := ⟨gb336, 2, none⟩) (Kd.R_far (p := ⟨gb336, 1, none⟩) (Kd.R_far (p := ⟨gb336, 0, none⟩) (Kd.R_types HO332.out BK336.out (by decide)) (fun _ hk => hk.2) (.bool t329)) (fun _ hk => hk.2) (.slice Ao11 t330.length co11)) (fun _ hk => hk.2) (.slice Ao12 t333.length co12)) (fun _ hk => hk.1))⟩, ⟨ra (Kd.R_mono (Kd.R_far (p := ⟨gb336, 2, none⟩) (Kd.R_far (p := ⟨gb336, 1, none⟩) (Kd.R_far (p := ⟨gb336, 0, none⟩) (Kd.R_types HO335.out BK336.out (by decide)) (fun _ hk => hk.2) (.bool t329)) (fun _ hk => hk.2) (.slice Ao11 t330.length co11)) (fun _ hk => hk.2) (.slice Ao12 t333.length co12)) (fun _ hk => hk.1))⟩, ⟨by (with_reducible repeat (first | refine blk_drewN ?_ _ | refine blk_drew ?_ | refine blk_alloc ?_ _)); refine blk_far ?_ NB327_336.out _; (with_reducible repeat (first | refine blk_drewN ?_ _ | refine blk_drew ?_ | refine blk_alloc ?_ _)); refine blk_far ?_ NB327_336.out _; (with_reducible repeat (first | refine blk_drewN ?_ _ | refine blk_drew ?_ | refine blk_alloc ?_ _)); refine blk_far ?_ NB327_336.out _; (with_reducible repeat (first | refine blk_drewN ?_ _ | refine blk_drew ?_ | refine blk_alloc ?_ _)); exact BK327.out⟩, ⟨by exact bp BK336.out rfl⟩, ⟨bl2 HB GE327 GE336⟩⟩
  case round =>
   clear H'
   try clear c1
   try clear c2
   try clear p2
   try clear c3
   try clear c9
   try clear c11
   try clear hcz10_0
   try clear hcz10_1
   try clear hcz10_2
   try clear hfz10_0
   try clear hfz10_1
   try clear hfz10_2
   obtain ⟨x15_1, x328000_1, x337000_1, x337001_1, x337002_1, u337001, u337002, rfl, HA, HK1, HO_337001, HO_337002, BK327, BK336, HB⟩ := hrel
   cases gk with
   | zero => exact absurd HA.out (by simp [odds_Exact.l0])
   | succ k1 =>
    have H := HA.out
    clear HA
    simp only [odds_Exact.l0] at H
    by_cases c13 : x15_1 < (l0.length : Int)
    ·rw [if_pos c13] at H
     have c13b0 : decide (x15_1 < (l0.length : Int)) = true := decide_eq_true c13
     clear c13
     by_cases c14 : 0 ≤ x15_1
     ·rw [if_pos c14] at H
      have c14b0 : decide (0 ≤ x15_1) = true := decide_eq_true c14
      clear c14
      by_cases c15 : x15_1 < (l0.length : Int)
      ·rw [if_pos c15] at H
       have c15b0 : decide (x15_1 < (l0.length : Int)) = true := decide_eq_true c15
       clear c15
       obtain ⟨⟨t339, t340, t343⟩, A16, H⟩ := bindA H
       dsimp only at H
       obtain ⟨⟨t346, t347, t350, t353⟩, A17, H⟩ := bindA H
       dsimp only at H
       by_cases c18 : t353 = 0
       ·rw [if_pos c18] at H
        have c18b0 : (t353 == 0) = true := beq_iff_eq.mpr c18
        have c18b1 : (t353 != 0) = false := bne_eq_false_iff_eq.mpr c18
        clear c18
        have H' := Aside0.mk H
        clear H
        have p337 : 0 ≤ (x15_1 : Int) := of_decide_eq_true (by first | (with_reducible assumption) | assumption)
        have q337 : x15_1 < (l0.length : Int) := of_decide_eq_true (by first | (with_reducible assumption) | assumption)
        obtain ⟨ad337, e337, hx337_0, hx337_1⟩ := at_T68 HR0.out x15_1 p337 q337
        cases e337
        replace hx337_0 := (HB.out.cell (World.block_lt_of_cell? w _ hx337_0)).trans hx337_0
        replace hx337_1 := (HB.out.cell (World.block_lt_of_cell? w _ hx337_1)).trans hx337_1
        replace p337 := eq_true p337
        replace q337 := eq_true q337
        try go_wp2_with (first | ((with_reducible refine gate_dst (N := 6) rfl ?_); refine box_event ?hg (N := 6) ?hd (cs := #[.int .i64 0, .int .i64 0]) (t := 68) ?hr ?_; (case hd => rfl); (case hg => rfl); (case hr => first | (go_simp; done) | (go_simp; rfl)); intro gb338 hg w19 hbox hb; have n0_ := Aside0.mk (Kd.R_below (ra HO_337001.out) hb); have n1_ := Aside0.mk (Kd.R_below (ra HO_337002.out) hb); have n2_ := Aside0.mk (blk_below (ba BK327.out) hb); have n3_ := Aside0.mk (blk_below (ba BK336.out) hb); have n4_ := Aside0.mk (below_step (bl2 HB GE327 GE336) hb); have n5_ := Aside0.mk (hbox); have n6_ := Aside0.mk ((by rw [hg]; exact (below_size (bl2 HB GE327 GE336)) : w.heap.size ≤ gb338)); have n7_ := Aside0.mk ((by rw [hg]; exact (below_size (bl2 HB GE327 GE336)) : w.heap.size ≤ gb338)); have n8_ := Aside0.mk ((by rw [hg]; exact Nat.ne_of_lt (blk_lt (g := gb327) (o := .cells #[.bool x328000_1, .slice none 0 0, .slice none 0 0] 36 (0, 0)) (ba BK327.out)) : gb327 ≠ gb338)); have n9_ := Aside0.mk ((by rw [hg]; exact Nat.ne_of_gt (blk_lt (g := gb327) (o := .cells #[.bool x328000_1, .slice none 0 0, .slice none 0 0] 36 (0, 0)) (ba BK327.out)) : gb338 ≠ gb327)); have n10_ := Aside0.mk ((by rw [hg]; exact Nat.ne_of_lt (blk_lt (g := gb336) (o := .cells #[.bool x337000_1, u337001, u337002] 36 (0, 0)) (ba BK336.out)) : gb336 ≠ gb338)); have n11_ := Aside0.mk ((by rw [hg]; exact Nat.ne_of_gt (blk_lt (g := gb336) (o := .cells #[.bool x337000_1, u337001, u337002] 36 (0, 0)) (ba BK336.out)) : gb338 ≠ gb336)); clear HO_337001; clear HO_337002; clear BK327; clear BK336; clear HB; have HO_337001 := n0_; have HO_337002 := n1_; have BK327 := n2_; have BK336 := n3_; have HB := n4_; have BK338 := n5_; have GW338 := n6_; have GE338 := n7_; have NB327_338 := n8_; have NB338_327 := n9_; have NB336_338 := n10_; have NB338_336 := n11_; clear n0_ n1_ n2_ n3_ n4_ n5_ n6_ n7_ n8_ n9_ n10_ n11_; clear hb hbox hg; have hnb20 := NB338_327.out; have hnc20 := NB327_338.out; have hnb21 := NB338_336.out; have hnc21 := NB336_338.out; obtain ⟨hcz22_0, hcz22_1, hfz22_0, hfz22_1⟩ := blk2 BK338.out))
        have n0_ : Aside0 (Kd.R (Kd.int .u32) 99 ((w19.setCell ⟨gb338, 0, none⟩ (.int .i64 ((rd_T68 l0 x15_1).f0))).setCell ⟨gb338, 1, none⟩ (.int .i64 ((rd_T68 l0 x15_1).f1))) w.heap.size (fun k_ => some k_ ≠ (u337002 : Value).ownBlock) u337001 x337001_1) := ⟨ra (Kd.R_mono (Kd.R_far (p := ⟨gb338, 1, none⟩) (Kd.R_far (p := ⟨gb338, 0, none⟩) (Kd.R_types HO_337001.out BK338.out (by decide)) (fun _ hk => hk.2) (.int .i64 ((rd_T68 l0 x15_1).f0))) (fun _ hk => hk.2) (.int .i64 ((rd_T68 l0 x15_1).f1))) (fun _ hk => hk.1))⟩
        have n1_ : Aside0 (Kd.R (Kd.int .u32) 99 ((w19.setCell ⟨gb338, 0, none⟩ (.int .i64 ((rd_T68 l0 x15_1).f0))).setCell ⟨gb338, 1, none⟩ (.int .i64 ((rd_T68 l0 x15_1).f1))) w.heap.size (fun k_ => some k_ ≠ (u337001 : Value).ownBlock) u337002 x337002_1) := ⟨ra (Kd.R_mono (Kd.R_far (p := ⟨gb338, 1, none⟩) (Kd.R_far (p := ⟨gb338, 0, none⟩) (Kd.R_types HO_337002.out BK338.out (by decide)) (fun _ hk => hk.2) (.int .i64 ((rd_T68 l0 x15_1).f0))) (fun _ hk => hk.2) (.int .i64 ((rd_T68 l0 x15_1).f1))) (fun _ hk => hk.1))⟩
        have n2_ : Aside0 (((w19.setCell ⟨gb338, 0, none⟩ (.int .i64 ((rd_T68 l0 x15_1).f0))).setCell ⟨gb338, 1, none⟩ (.int .i64 ((rd_T68 l0 x15_1).f1))).heap[gb327]? = some (.cells #[.bool x328000_1, .slice none 0 0, .slice none 0 0] 36 (0, 0))) := ⟨by (with_reducible repeat (first | refine blk_drewN ?_ _ | refine blk_drew ?_ | refine blk_alloc ?_ _)); refine blk_far ?_ NB327_338.out _; (with_reducible repeat (first | refine blk_drewN ?_ _ | refine blk_drew ?_ | refine blk_alloc ?_ _)); refine blk_far ?_ NB327_338.out _; (with_reducible repeat (first | refine blk_drewN ?_ _ | refine blk_drew ?_ | refine blk_alloc ?_ _)); exact BK327.out⟩
        have n3_ : Aside0 (((w19.setCell ⟨gb338, 0, none⟩ (.int .i64 ((rd_T68 l0 x15_1).f0))).setCell ⟨gb338, 1, none⟩ (.int .i64 ((rd_T68 l0 x15_1).f1))).heap[gb336]? = some (.cells #[.bool x337000_1, u337001, u337002] 36 (0, 0))) := ⟨by (with_reducible repeat (first | refine blk_drewN ?_ _ | refine blk_drew ?_ | refine blk_alloc ?_ _)); refine blk_far ?_ NB336_338.out _; (with_reducible repeat (first | refine blk_drewN ?_ _ | refine blk_drew ?_ | refine blk_alloc ?_ _)); refine blk_far ?_ NB336_338.out _; (with_reducible repeat (first | refine blk_drewN ?_ _ | refine blk_drew ?_ | refine blk_alloc ?_ _)); exact BK336.out⟩
        have n4_ : Aside0 (((w19.setCell ⟨gb338, 0, none⟩ (.int .i64 ((rd_T68 l0 x15_1).f0))).setCell ⟨gb338, 1, none⟩ (.int .i64 ((rd_T68 l0 x15_1).f1))).heap[gb338]? = some (.cells #[.int .i64 ((rd_T68 l0 x15_1).f0), .int .i64 ((rd_T68 l0 x15_1).f1)] 68 (0, 0))) := ⟨by exact bp BK338.out rfl⟩
        have n5_ : Aside0 (Below w.heap.size w ((w19.setCell ⟨gb338, 0, none⟩ (.int .i64 ((rd_T68 l0 x15_1).f0))).setCell ⟨gb338, 1, none⟩ (.int .i64 ((rd_T68 l0 x15_1).f1)))) := ⟨bl3 HB GE327 GE336 GE338⟩
        (try clear HO_337001)
        (try clear HO_337002)
        (try clear BK327)
        (try clear BK336)
        (try clear BK338)
        (try clear HB)
        generalize ((w19.setCell ⟨gb338, 0, none⟩ (.int .i64 ((rd_T68 l0 x15_1).f0))).setCell ⟨gb338, 1, none⟩ (.int .i64 ((rd_T68 l0 x15_1).f1))) = w23 at n0_ n1_ n2_ n3_ n4_ n5_ ⊢
        have HO_337001 := n0_
        have HO_337002 := n1_
        have BK327 := n2_
        have BK336 := n3_
        have BK338 := n4_
        have HB := n5_
        clear n0_ n1_ n2_ n3_ n4_ n5_
        have n0_ := Aside0.mk (Kd.R_drew HO_337001.out)
        have n1_ := Aside0.mk (Kd.R_drew HO_337002.out)
        have n2_ := Aside0.mk (blk_drew BK327.out)
        have n3_ := Aside0.mk (blk_drew BK336.out)
        have n4_ := Aside0.mk (blk_drew BK338.out)
        have n5_ := Aside0.mk (below_drew1 HB.out)
        clear HO_337001
        clear HO_337002
        clear BK327
        clear BK336
        clear BK338
        clear HB
        have HO_337001 := n0_
        have HO_337002 := n1_
        have BK327 := n2_
        have BK336 := n3_
        have BK338 := n4_
        have HB := n5_
        clear n0_ n1_ n2_ n3_ n4_ n5_
        refine start_ (n := 10) (S := fun w' => w'.cell? ⟨gb336, 0, none⟩ = some (.bool x337000_1) ∧ w'.cell? ⟨gb336, 1, none⟩ = some (u337001) ∧ w'.cell? ⟨gb336, 2, none⟩ = some (u337002) ∧ w'.cell? ⟨gb338, 0, none⟩ = some (.int .i64 ((rd_T68 l0 x15_1).f0)) ∧ w'.cell? ⟨gb338, 1, none⟩ = some (.int .i64 ((rd_T68 l0 x15_1).f1))) (ds := [8]) #[false, false, false, false, false, false, false, false, false, false] (by kernel_rfl) rfl rfl ⟨(blk_cell BK336.out 0).trans rfl, (blk_cell BK336.out 1).trans rfl, (blk_cell BK336.out 2).trans rfl, (blk_cell BK338.out 0).trans rfl, (blk_cell BK338.out 1).trans rfl⟩ (fun hHeld => ?_); refine with_tabW odds_Exact.tab8 odds_Exact.bits8 (fun HT_ HW_ => ?_)
        generalize w23.drew = w24 at HO_337001 HO_337002 BK327 BK336 BK338 HB hHeld ⊢
        refine pure_ (i := 1) (N := some 21) (v := ?_) (a' := ?_) #[false, true, false, false, false, false, false, false, false, false] rfl rfl (any_of HT_.out (by kernel_rfl)) (fun _ _ _ h => h) (Or.inl ⟨by rfl, ?_⟩) ?_ ?_
        rotate_left
        ·intro w'
         go_simp
         with_reducible rfl
        rotate_left
        ·simp only [Act.put, List.setIfInBounds_toArray, List.set_cons_zero, List.set_cons_succ, i64_w, i32_w]
         rfl
        refine take_ (i := 0) (N := some 20) (v := ?_) (a' := ?_) #[true, true, false, false, false, false, false, false, false, false] rfl rfl (take_ofW HT_.out HW_.out (by kernel_rfl)) (fun _ _ _ h => h) (Or.inl ⟨by rfl, ?_⟩) hHeld ?_ ?_
        rotate_left
        ·rintro w' ⟨s0, s1, s2, s3, s4⟩
         go_simp
         with_reducible rfl
        rotate_left
        ·simp only [Act.put, List.setIfInBounds_toArray, List.set_cons_zero, List.set_cons_succ, i64_w, i32_w]
         rfl
        refine take_ (i := 2) (N := some 22) (v := ?_) (a' := ?_) #[true, true, true, false, false, false, false, false, false, false] rfl rfl (take_ofW HT_.out HW_.out (by kernel_rfl)) (fun _ _ _ h => h) (Or.inl ⟨by rfl, ?_⟩) hHeld ?_ ?_
        rotate_left
        ·rintro w' ⟨s0, s1, s2, s3, s4⟩
         go_simp
         with_reducible rfl
        rotate_left
        ·simp only [Act.put, List.setIfInBounds_toArray, List.set_cons_zero, List.set_cons_succ, i64_w, i32_w]
         rfl
        refine one_ (i := 3) (N := some 23) #[true, true, true, true, false, false, false, false, false, false] rfl rfl (one_of HT_.out (by kernel_rfl)) (by decide) (fun K hK => ?_)
        refine goes_ Try.func32 (by kernel_rfl) rfl #[.int .i64 ((rd_T68 l0 x15_1).f0)] (by rfl) rfl rfl (by (try simp only [List.map_toArray, List.map_cons, List.map_nil]); first | done | rfl | (simp only [List.length_drop, List.length_take]; rfl)) ?_
        with_reducible refine (ratio_Of.calls k1 ((rd_T68 l0 x15_1).f0) t339 t340 t343 _ A16.out).mono ?_
        rintro e w25 ⟨v341, v344, rfl, ho0, ho1, hb⟩
        refine ⟨_, rfl, ?_⟩
        have n0_ := Aside0.mk (Kd.R_mono (Kd.R_told (Kd.R_told (Kd.R_old (ra HO_337001.out) hb) (Kd.R_base ho0)) (Kd.R_base ho1)) (fun _ h_ => h_.1))
        have n1_ := Aside0.mk (Kd.R_mono (Kd.R_told (Kd.R_told (Kd.R_old (ra HO_337002.out) hb) (Kd.R_base ho0)) (Kd.R_base ho1)) (fun _ h_ => h_.1))
        have n2_ := Aside0.mk (Kd.R_lower (Kd.R_new' (Kd.R_new' ho0 (Kd.R_lt (ra HO_337001.out))) (Kd.R_lt (ra HO_337002.out))) (below_size (bl3 HB GE327 GE336 GE338)))
        have n3_ := Aside0.mk (Kd.R_lower (Kd.R_new' (Kd.R_new' ho1 (Kd.R_lt (ra HO_337001.out))) (Kd.R_lt (ra HO_337002.out))) (below_size (bl3 HB GE327 GE336 GE338)))
        have n4_ := Aside0.mk (blk_below (ba BK327.out) hb)
        have n5_ := Aside0.mk (blk_below (ba BK336.out) hb)
        have n6_ := Aside0.mk (blk_below (ba BK338.out) hb)
        have n7_ := Aside0.mk (below_step (bl3 HB GE327 GE336 GE338) hb)
        clear HO_337001
        clear HO_337002
        clear BK327
        clear BK336
        clear BK338
        clear HB
        have HO_337001 := n0_
        have HO_337002 := n1_
        have HO342 := n2_
        have HO345 := n3_
        have BK327 := n4_
        have BK336 := n5_
        have BK338 := n6_
        have HB := n7_
        clear n0_ n1_ n2_ n3_ n4_ n5_ n6_ n7_
        (try clear hb)
        (try clear hb2)
        (try clear hk)
        (try clear hi)
        (try clear ho0)
        (try clear ho1)
        obtain ⟨Ao26, co26, eo26⟩ := Kd.R_slice HO_337001.out
        (first | subst eo26 | (injection eo26 with f1_ f2_ f3_; have f4_ := f1_.symm; have f5_ := f3_.symm; clear f1_ f2_ f3_; subst f4_; subst f5_))
        obtain ⟨Ao27, co27, eo27⟩ := Kd.R_slice HO_337002.out
        (first | subst eo27 | (injection eo27 with f1_ f2_ f3_; have f4_ := f1_.symm; have f5_ := f3_.symm; clear f1_ f2_ f3_; subst f4_; subst f5_))
        obtain ⟨Ao28, co28, eo28⟩ := Kd.R_slice HO342.out
        (first | subst eo28 | (injection eo28 with f1_ f2_ f3_; have f4_ := f1_.symm; have f5_ := f3_.symm; clear f1_ f2_ f3_; subst f4_; subst f5_))
        obtain ⟨Ao29, co29, eo29⟩ := Kd.R_slice HO345.out
        (first | subst eo29 | (injection eo29 with f1_ f2_ f3_; have f4_ := f1_.symm; have f5_ := f3_.symm; clear f1_ f2_ f3_; subst f4_; subst f5_))
        refine hK.out _ _ ⟨(blk_cell BK336.out 0).trans rfl, (blk_cell BK336.out 1).trans rfl, (blk_cell BK336.out 2).trans rfl, (blk_cell BK338.out 0).trans rfl, (blk_cell BK338.out 1).trans rfl⟩ (fun hHeld => ?_)
        clear hK K
        refine norm_ (a' := ?_) ?_ ?_
        rotate_left
        ·show Act.put _ (some 23) _ = _
         simp only [Act.put, List.setIfInBounds_toArray, List.set_cons_zero, List.set_cons_succ, i64_w, i32_w]
         rfl
        refine one_ (i := 4) (N := some 24) #[true, true, true, true, true, false, false, false, false, false] rfl rfl (one_of HT_.out (by kernel_rfl)) (by decide) (fun K hK => ?_)
        refine goes_ Try.func33 (by kernel_rfl) rfl #[.agg #[.bool x337000_1, .slice Ao26 x337001_1.length co26, .slice Ao27 x337002_1.length co27], .agg #[.bool t339, .slice Ao28 t340.length co28, .slice Ao29 t343.length co29]] (by rfl) rfl rfl (by (try simp only [List.map_toArray, List.map_cons, List.map_nil]); first | done | rfl | (simp only [List.length_drop, List.length_take]; rfl)) ?_
        with_reducible refine (ratio_Div.calls k1 x337000_1 (fun k_ => some k_ = (.slice Ao26 x337001_1.length co26 : Value).ownBlock) _ _ x337001_1 (fun k_ => some k_ = (.slice Ao27 x337002_1.length co27 : Value).ownBlock) _ _ x337002_1 t339 (fun k_ => some k_ = (.slice Ao28 t340.length co28 : Value).ownBlock) _ _ t340 (fun k_ => some k_ = (.slice Ao29 t343.length co29 : Value).ownBlock) _ _ t343 t346 t347 t350 t353 _ ?side1 ?side2 ?side3 ?side4 A17.out).mono ?_
        (case side1 => exact Kd.R_V (Kd.R_tight rfl (Kd.R_types (Kd.R_types (Kd.R_types (HO_337001.out) BK327.out (by decide)) BK336.out (by decide)) BK338.out (by decide))))
        (case side2 => exact Kd.R_V (Kd.R_tight rfl (Kd.R_types (Kd.R_types (Kd.R_types (HO_337002.out) BK327.out (by decide)) BK336.out (by decide)) BK338.out (by decide))))
        (case side3 => exact Kd.R_V (Kd.R_tight rfl (Kd.R_types (Kd.R_types (Kd.R_types (HO342.out) BK327.out (by decide)) BK336.out (by decide)) BK338.out (by decide))))
        (case side4 => exact Kd.R_V (Kd.R_tight rfl (Kd.R_types (Kd.R_types (Kd.R_types (HO345.out) BK327.out (by decide)) BK336.out (by decide)) BK338.out (by decide))))
        rintro e w30 ⟨v348, v351, rfl, ho0, ho1, hb⟩
        refine ⟨_, rfl, ?_⟩
        have n0_ := Aside0.mk (Kd.R_mono (Kd.R_told (Kd.R_told (Kd.R_old (ra HO_337001.out) hb) (Kd.R_base ho0)) (Kd.R_base ho1)) (fun _ h_ => h_.1))
        have n1_ := Aside0.mk (Kd.R_mono (Kd.R_told (Kd.R_told (Kd.R_old (ra HO_337002.out) hb) (Kd.R_base ho0)) (Kd.R_base ho1)) (fun _ h_ => h_.1))
        have n2_ := Aside0.mk (Kd.R_mono (Kd.R_told (Kd.R_told (Kd.R_old (ra HO342.out) hb) (Kd.R_base ho0)) (Kd.R_base ho1)) (fun _ h_ => h_.1))
        have n3_ := Aside0.mk (Kd.R_mono (Kd.R_told (Kd.R_told (Kd.R_old (ra HO345.out) hb) (Kd.R_base ho0)) (Kd.R_base ho1)) (fun _ h_ => h_.1))
        have n4_ := Aside0.mk (Kd.R_lower (Kd.R_new' (Kd.R_new' (Kd.R_new' (Kd.R_new' (Kd.R_mono (ok' := fun k_ => some k_ ≠ (v351 : Value).ownBlock) ho0 (fun _ hk_ => hk_.2)) (Kd.R_lt (ra HO_337001.out))) (Kd.R_lt (ra HO_337002.out))) (Kd.R_lt (ra HO342.out))) (Kd.R_lt (ra HO345.out))) (below_size (bl3 HB GE327 GE336 GE338)))
        have n5_ := Aside0.mk (Kd.R_lower (Kd.R_new' (Kd.R_new' (Kd.R_new' (Kd.R_new' (Kd.R_mono (ok' := fun k_ => some k_ ≠ (v348 : Value).ownBlock) ho1 (fun _ hk_ => hk_.2)) (Kd.R_lt (ra HO_337001.out))) (Kd.R_lt (ra HO_337002.out))) (Kd.R_lt (ra HO342.out))) (Kd.R_lt (ra HO345.out))) (below_size (bl3 HB GE327 GE336 GE338)))
        have n6_ := Aside0.mk (blk_below (ba BK327.out) hb)
        have n7_ := Aside0.mk (blk_below (ba BK336.out) hb)
        have n8_ := Aside0.mk (blk_below (ba BK338.out) hb)
        have n9_ := Aside0.mk (below_step (bl3 HB GE327 GE336 GE338) hb)
        clear HO_337001
        clear HO_337002
        clear HO342
        clear HO345
        clear BK327
        clear BK336
        clear BK338
        clear HB
        have HO_337001 := n0_
        have HO_337002 := n1_
        have HO342 := n2_
        have HO345 := n3_
        have HO349 := n4_
        have HO352 := n5_
        have BK327 := n6_
        have BK336 := n7_
        have BK338 := n8_
        have HB := n9_
        clear n0_ n1_ n2_ n3_ n4_ n5_ n6_ n7_ n8_ n9_
        (try clear hb)
        (try clear hb2)
        (try clear hk)
        (try clear hi)
        (try clear ho0)
        (try clear ho1)
        obtain ⟨Ao32, co32, eo32⟩ := Kd.R_slice HO349.out
        (first | subst eo32 | (injection eo32 with f1_ f2_ f3_; have f4_ := f1_.symm; have f5_ := f3_.symm; clear f1_ f2_ f3_; subst f4_; subst f5_))
        obtain ⟨Ao34, co34, eo34⟩ := Kd.R_slice HO352.out
        (first | subst eo34 | (injection eo34 with f1_ f2_ f3_; have f4_ := f1_.symm; have f5_ := f3_.symm; clear f1_ f2_ f3_; subst f4_; subst f5_))
        refine hK.out _ _ ⟨(blk_cell BK336.out 0).trans rfl, (blk_cell BK336.out 1).trans rfl, (blk_cell BK336.out 2).trans rfl, (blk_cell BK338.out 0).trans rfl, (blk_cell BK338.out 1).trans rfl⟩ (fun hHeld => ?_)
        clear hK K
        refine norm_ (a' := ?_) ?_ ?_
        rotate_left
        ·show Act.put _ (some 24) _ = _
         simp only [Act.put, List.setIfInBounds_toArray, List.set_cons_zero, List.set_cons_succ, i64_w, i32_w]
         rfl
        refine pure_ (i := 5) (N := some 19) (v := ?_) (a' := ?_) #[true, true, true, true, true, true, false, false, false, false] rfl rfl (any_of HT_.out (by kernel_rfl)) (fun _ _ _ h => h) (Or.inl ⟨by rfl, ?_⟩) ?_ ?_
        rotate_left
        ·intro w'
         go_simp
         with_reducible rfl
        rotate_left
        ·simp only [Act.put, List.setIfInBounds_toArray, List.set_cons_zero, List.set_cons_succ, i64_w, i32_w]
         rfl
        refine pure_ (i := 6) (N := some 25) (v := ?_) (a' := ?_) #[true, true, true, true, true, true, true, false, false, false] rfl rfl (any_of HT_.out (by kernel_rfl)) (fun _ _ _ h => h) (Or.inl ⟨by rfl, ?_⟩) ?_ ?_
        rotate_left
        ·intro w'
         go_simp
         with_reducible rfl
        rotate_left
        ·simp only [Act.put, List.setIfInBounds_toArray, List.set_cons_zero, List.set_cons_succ, i64_w, i32_w]
         rfl
        refine pure_ (i := 7) (N := some 26) (v := ?_) (a' := ?_) #[true, true, true, true, true, true, true, true, false, false] rfl rfl (any_of HT_.out (by kernel_rfl)) (fun _ _ _ h => h) (Or.inl ⟨by rfl, ?_⟩) ?_ ?_
        rotate_left
        ·intro w'
         go_simp
         with_reducible rfl
        rotate_left
        ·simp only [Act.put, List.setIfInBounds_toArray, List.set_cons_zero, List.set_cons_succ, i64_w, i32_w]
         rfl
        refine last_ (i := 8) (N := none) #[true, true, true, true, true, true, true, true, true, false] rfl rfl (one_of HT_.out (by kernel_rfl)) (by decide) (fun K hK => ?_)
        have hs31 : w30.cell? ⟨gb336, 0, none⟩ = some (.bool x337000_1) := (blk_cell BK336.out 0).trans rfl
        have hfs31 := blk_frozen BK336.out 0
        have hns31_0 := NB327_336.out
        have hns31_2 := NB338_336.out
        have hms31_0 := NB336_327.out
        have hms31_2 := NB336_338.out
        have hs33 : w30.cell? ⟨gb336, 1, none⟩ = some (.slice Ao26 x337001_1.length co26) := (blk_cell BK336.out 1).trans rfl
        have hfs33 := blk_frozen BK336.out 1
        have hns33_0 := NB327_336.out
        have hns33_2 := NB338_336.out
        have hms33_0 := NB336_327.out
        have hms33_2 := NB336_338.out
        have hs35 : w30.cell? ⟨gb336, 2, none⟩ = some (.slice Ao27 x337002_1.length co27) := (blk_cell BK336.out 2).trans rfl
        have hfs35 := blk_frozen BK336.out 2
        have hns35_0 := NB327_336.out
        have hns35_2 := NB338_336.out
        have hms35_0 := NB336_327.out
        have hms35_2 := NB336_338.out
        refine skip_ (w1 := ?_) (by rfl) rfl ?_ ?_
        rotate_left
        ·go_simp
         rfl
        refine hK.out _ _ ?_
        clear hK K
        refine pure_ (i := 9) (N := some 7) (v := ?_) (a' := ?_) #[true, true, true, true, true, true, true, true, true, true] rfl rfl (any_of HT_.out (by kernel_rfl)) (fun _ _ _ h => h) (Or.inl ⟨by rfl, ?_⟩) ?_ ?_
        rotate_left
        ·intro w'
         go_simp
         with_reducible rfl
        rotate_left
        ·simp only [Act.put, List.setIfInBounds_toArray, List.set_cons_zero, List.set_cons_succ, i64_w, i32_w]
         rfl
        refine done_ (done_of HT_.out (by kernel_rfl)) ?_
        try go_wp2
        go_roundg k1
        case measure => have := HK1.out; omega
        case rel => exact ⟨(wrap64 (x15_1 + 1)), (x328000_1), (t346), (t347), (t350), (.slice Ao32 t347.length co32), (.slice Ao34 t350.length co34), (by first | rfl | (simp; done) | (simp [*]; done)), H', ⟨by have := HK1.out; omega⟩, ⟨ra (Kd.R_mono (Kd.R_far (p := ⟨gb336, 2, none⟩) (Kd.R_far (p := ⟨gb336, 1, none⟩) (Kd.R_far (p := ⟨gb336, 0, none⟩) (Kd.R_types HO349.out BK336.out (by decide)) (fun _ hk => hk.2) (.bool t346)) (fun _ hk => hk.2) (.slice Ao32 t347.length co32)) (fun _ hk => hk.2) (.slice Ao34 t350.length co34)) (fun _ hk => hk.1.1.1.1.1))⟩, ⟨ra (Kd.R_mono (Kd.R_far (p := ⟨gb336, 2, none⟩) (Kd.R_far (p := ⟨gb336, 1, none⟩) (Kd.R_far (p := ⟨gb336, 0, none⟩) (Kd.R_types HO352.out BK336.out (by decide)) (fun _ hk => hk.2) (.bool t346)) (fun _ hk => hk.2) (.slice Ao32 t347.length co32)) (fun _ hk => hk.2) (.slice Ao34 t350.length co34)) (fun _ hk => hk.1.1.1.1.1))⟩, ⟨by (with_reducible repeat (first | refine blk_drewN ?_ _ | refine blk_drew ?_ | refine blk_alloc ?_ _)); refine blk_far ?_ NB327_336.out _; (with_reducible repeat (first | refine blk_drewN ?_ _ | refine blk_drew ?_ | refine blk_alloc ?_ _)); refine blk_far ?_ NB327_336.out _; (with_reducible repeat (first | refine blk_drewN ?_ _ | refine blk_drew ?_ | refine blk_alloc ?_ _)); refine blk_far ?_ NB327_336.out _; (with_reducible repeat (first | refine blk_drewN ?_ _ | refine blk_drew ?_ | refine blk_alloc ?_ _)); exact BK327.out⟩, ⟨by exact bp BK336.out rfl⟩, ⟨bl3 HB GE327 GE336 GE338⟩⟩
       ·rw [if_neg c18] at H
        have c18b0 : (t353 == 0) = false := beq_eq_false_iff_ne.mpr c18
        have c18b1 : (t353 != 0) = true := bne_iff_ne.mpr c18
        simp only [Option.some.injEq, Prod.mk.injEq] at H
        obtain ⟨rfl, rfl, rfl, rfl⟩ := H
        have p337 : 0 ≤ (x15_1 : Int) := of_decide_eq_true (by first | (with_reducible assumption) | assumption)
        have q337 : x15_1 < (l0.length : Int) := of_decide_eq_true (by first | (with_reducible assumption) | assumption)
        obtain ⟨ad337, e337, hx337_0, hx337_1⟩ := at_T68 HR0.out x15_1 p337 q337
        cases e337
        replace hx337_0 := (HB.out.cell (World.block_lt_of_cell? w _ hx337_0)).trans hx337_0
        replace hx337_1 := (HB.out.cell (World.block_lt_of_cell? w _ hx337_1)).trans hx337_1
        replace p337 := eq_true p337
        replace q337 := eq_true q337
        try go_wp2_with (first | ((with_reducible refine gate_dst (N := 6) rfl ?_); refine box_event ?hg (N := 6) ?hd (cs := #[.int .i64 0, .int .i64 0]) (t := 68) ?hr ?_; (case hd => rfl); (case hg => rfl); (case hr => first | (go_simp; done) | (go_simp; rfl)); intro gb338 hg w36 hbox hb; have n0_ := Aside0.mk (Kd.R_below (ra HO_337001.out) hb); have n1_ := Aside0.mk (Kd.R_below (ra HO_337002.out) hb); have n2_ := Aside0.mk (blk_below (ba BK327.out) hb); have n3_ := Aside0.mk (blk_below (ba BK336.out) hb); have n4_ := Aside0.mk (below_step (bl2 HB GE327 GE336) hb); have n5_ := Aside0.mk (hbox); have n6_ := Aside0.mk ((by rw [hg]; exact (below_size (bl2 HB GE327 GE336)) : w.heap.size ≤ gb338)); have n7_ := Aside0.mk ((by rw [hg]; exact (below_size (bl2 HB GE327 GE336)) : w.heap.size ≤ gb338)); have n8_ := Aside0.mk ((by rw [hg]; exact Nat.ne_of_lt (blk_lt (g := gb327) (o := .cells #[.bool x328000_1, .slice none 0 0, .slice none 0 0] 36 (0, 0)) (ba BK327.out)) : gb327 ≠ gb338)); have n9_ := Aside0.mk ((by rw [hg]; exact Nat.ne_of_gt (blk_lt (g := gb327) (o := .cells #[.bool x328000_1, .slice none 0 0, .slice none 0 0] 36 (0, 0)) (ba BK327.out)) : gb338 ≠ gb327)); have n10_ := Aside0.mk ((by rw [hg]; exact Nat.ne_of_lt (blk_lt (g := gb336) (o := .cells #[.bool x337000_1, u337001, u337002] 36 (0, 0)) (ba BK336.out)) : gb336 ≠ gb338)); have n11_ := Aside0.mk ((by rw [hg]; exact Nat.ne_of_gt (blk_lt (g := gb336) (o := .cells #[.bool x337000_1, u337001, u337002] 36 (0, 0)) (ba BK336.out)) : gb338 ≠ gb336)); clear HO_337001; clear HO_337002; clear BK327; clear BK336; clear HB; have HO_337001 := n0_; have HO_337002 := n1_; have BK327 := n2_; have BK336 := n3_; have HB := n4_; have BK338 := n5_; have GW338 := n6_; have GE338 := n7_; have NB327_338 := n8_; have NB338_327 := n9_; have NB336_338 := n10_; have NB338_336 := n11_; clear n0_ n1_ n2_ n3_ n4_ n5_ n6_ n7_ n8_ n9_ n10_ n11_; clear hb hbox hg; have hnb37 := NB338_327.out; have hnc37 := NB327_338.out; have hnb38 := NB338_336.out; have hnc38 := NB336_338.out; obtain ⟨hcz39_0, hcz39_1, hfz39_0, hfz39_1⟩ := blk2 BK338.out))
        have n0_ : Aside0 (Kd.R (Kd.int .u32) 99 ((w36.setCell ⟨gb338, 0, none⟩ (.int .i64 ((rd_T68 l0 x15_1).f0))).setCell ⟨gb338, 1, none⟩ (.int .i64 ((rd_T68 l0 x15_1).f1))) w.heap.size (fun k_ => some k_ ≠ (u337002 : Value).ownBlock) u337001 x337001_1) := ⟨ra (Kd.R_mono (Kd.R_far (p := ⟨gb338, 1, none⟩) (Kd.R_far (p := ⟨gb338, 0, none⟩) (Kd.R_types HO_337001.out BK338.out (by decide)) (fun _ hk => hk.2) (.int .i64 ((rd_T68 l0 x15_1).f0))) (fun _ hk => hk.2) (.int .i64 ((rd_T68 l0 x15_1).f1))) (fun _ hk => hk.1))⟩
        have n1_ : Aside0 (Kd.R (Kd.int .u32) 99 ((w36.setCell ⟨gb338, 0, none⟩ (.int .i64 ((rd_T68 l0 x15_1).f0))).setCell ⟨gb338, 1, none⟩ (.int .i64 ((rd_T68 l0 x15_1).f1))) w.heap.size (fun k_ => some k_ ≠ (u337001 : Value).ownBlock) u337002 x337002_1) := ⟨ra (Kd.R_mono (Kd.R_far (p := ⟨gb338, 1, none⟩) (Kd.R_far (p := ⟨gb338, 0, none⟩) (Kd.R_types HO_337002.out BK338.out (by decide)) (fun _ hk => hk.2) (.int .i64 ((rd_T68 l0 x15_1).f0))) (fun _ hk => hk.2) (.int .i64 ((rd_T68 l0 x15_1).f1))) (fun _ hk => hk.1))⟩
        have n2_ : Aside0 (((w36.setCell ⟨gb338, 0, none⟩ (.int .i64 ((rd_T68 l0 x15_1).f0))).setCell ⟨gb338, 1, none⟩ (.int .i64 ((rd_T68 l0 x15_1).f1))).heap[gb327]? = some (.cells #[.bool x328000_1, .slice none 0 0, .slice none 0 0] 36 (0, 0))) := ⟨by (with_reducible repeat (first | refine blk_drewN ?_ _ | refine blk_drew ?_ | refine blk_alloc ?_ _)); refine blk_far ?_ NB327_338.out _; (with_reducible repeat (first | refine blk_drewN ?_ _ | refine blk_drew ?_ | refine blk_alloc ?_ _)); refine blk_far ?_ NB327_338.out _; (with_reducible repeat (first | refine blk_drewN ?_ _ | refine blk_drew ?_ | refine blk_alloc ?_ _)); exact BK327.out⟩
        have n3_ : Aside0 (((w36.setCell ⟨gb338, 0, none⟩ (.int .i64 ((rd_T68 l0 x15_1).f0))).setCell ⟨gb338, 1, none⟩ (.int .i64 ((rd_T68 l0 x15_1).f1))).heap[gb336]? = some (.cells #[.bool x337000_1, u337001, u337002] 36 (0, 0))) := ⟨by (with_reducible repeat (first | refine blk_drewN ?_ _ | refine blk_drew ?_ | refine blk_alloc ?_ _)); refine blk_far ?_ NB336_338.out _; (with_reducible repeat (first | refine blk_drewN ?_ _ | refine blk_drew ?_ | refine blk_alloc ?_ _)); refine blk_far ?_ NB336_338.out _; (with_reducible repeat (first | refine blk_drewN ?_ _ | refine blk_drew ?_ | refine blk_alloc ?_ _)); exact BK336.out⟩
        have n4_ : Aside0 (((w36.setCell ⟨gb338, 0, none⟩ (.int .i64 ((rd_T68 l0 x15_1).f0))).setCell ⟨gb338, 1, none⟩ (.int .i64 ((rd_T68 l0 x15_1).f1))).heap[gb338]? = some (.cells #[.int .i64 ((rd_T68 l0 x15_1).f0), .int .i64 ((rd_T68 l0 x15_1).f1)] 68 (0, 0))) := ⟨by exact bp BK338.out rfl⟩
        have n5_ : Aside0 (Below w.heap.size w ((w36.setCell ⟨gb338, 0, none⟩ (.int .i64 ((rd_T68 l0 x15_1).f0))).setCell ⟨gb338, 1, none⟩ (.int .i64 ((rd_T68 l0 x15_1).f1)))) := ⟨bl3 HB GE327 GE336 GE338⟩
        (try clear HO_337001)
        (try clear HO_337002)
        (try clear BK327)
        (try clear BK336)
        (try clear BK338)
        (try clear HB)
        generalize ((w36.setCell ⟨gb338, 0, none⟩ (.int .i64 ((rd_T68 l0 x15_1).f0))).setCell ⟨gb338, 1, none⟩ (.int .i64 ((rd_T68 l0 x15_1).f1))) = w40 at n0_ n1_ n2_ n3_ n4_ n5_ ⊢
        have HO_337001 := n0_
        have HO_337002 := n1_
        have BK327 := n2_
        have BK336 := n3_
        have BK338 := n4_
        have HB := n5_
        clear n0_ n1_ n2_ n3_ n4_ n5_
        have n0_ := Aside0.mk (Kd.R_drew HO_337001.out)
        have n1_ := Aside0.mk (Kd.R_drew HO_337002.out)
        have n2_ := Aside0.mk (blk_drew BK327.out)
        have n3_ := Aside0.mk (blk_drew BK336.out)
        have n4_ := Aside0.mk (blk_drew BK338.out)
        have n5_ := Aside0.mk (below_drew1 HB.out)
        clear HO_337001
        clear HO_337002
        clear BK327
        clear BK336
        clear BK338
        clear HB
        have HO_337001 := n0_
        have HO_337002 := n1_
        have BK327 := n2_
        have BK336 := n3_
        have BK338 := n4_
        have HB := n5_
        clear n0_ n1_ n2_ n3_ n4_ n5_
        refine start_ (n := 10) (S := fun w' => w'.cell? ⟨gb336, 0, none⟩ = some (.bool x337000_1) ∧ w'.cell? ⟨gb336, 1, none⟩ = some (u337001) ∧ w'.cell? ⟨gb336, 2, none⟩ = some (u337002) ∧ w'.cell? ⟨gb338, 0, none⟩ = some (.int .i64 ((rd_T68 l0 x15_1).f0)) ∧ w'.cell? ⟨gb338, 1, none⟩ = some (.int .i64 ((rd_T68 l0 x15_1).f1))) (ds := [8]) #[false, false, false, false, false, false, false, false, false, false] (by kernel_rfl) rfl rfl ⟨(blk_cell BK336.out 0).trans rfl, (blk_cell BK336.out 1).trans rfl, (blk_cell BK336.out 2).trans rfl, (blk_cell BK338.out 0).trans rfl, (blk_cell BK338.out 1).trans rfl⟩ (fun hHeld => ?_); refine with_tabW odds_Exact.tab8 odds_Exact.bits8 (fun HT_ HW_ => ?_)
        generalize w40.drew = w41 at HO_337001 HO_337002 BK327 BK336 BK338 HB hHeld ⊢
        refine pure_ (i := 1) (N := some 21) (v := ?_) (a' := ?_) #[false, true, false, false, false, false, false, false, false, false] rfl rfl (any_of HT_.out (by kernel_rfl)) (fun _ _ _ h => h) (Or.inl ⟨by rfl, ?_⟩) ?_ ?_
        rotate_left
        ·intro w'
         go_simp
         with_reducible rfl
        rotate_left
        ·simp only [Act.put, List.setIfInBounds_toArray, List.set_cons_zero, List.set_cons_succ, i64_w, i32_w]
         rfl
        refine take_ (i := 0) (N := some 20) (v := ?_) (a' := ?_) #[true, true, false, false, false, false, false, false, false, false] rfl rfl (take_ofW HT_.out HW_.out (by kernel_rfl)) (fun _ _ _ h => h) (Or.inl ⟨by rfl, ?_⟩) hHeld ?_ ?_
        rotate_left
        ·rintro w' ⟨s0, s1, s2, s3, s4⟩
         go_simp
         with_reducible rfl
        rotate_left
        ·simp only [Act.put, List.setIfInBounds_toArray, List.set_cons_zero, List.set_cons_succ, i64_w, i32_w]
         rfl
        refine take_ (i := 2) (N := some 22) (v := ?_) (a' := ?_) #[true, true, true, false, false, false, false, false, false, false] rfl rfl (take_ofW HT_.out HW_.out (by kernel_rfl)) (fun _ _ _ h => h) (Or.inl ⟨by rfl, ?_⟩) hHeld ?_ ?_
        rotate_left
        ·rintro w' ⟨s0, s1, s2, s3, s4⟩
         go_simp
         with_reducible rfl
        rotate_left
        ·simp only [Act.put, List.setIfInBounds_toArray, List.set_cons_zero, List.set_cons_succ, i64_w, i32_w]
         rfl
        refine one_ (i := 3) (N := some 23) #[true, true, true, true, false, false, false, false, false, false] rfl rfl (one_of HT_.out (by kernel_rfl)) (by decide) (fun K hK => ?_)
        refine goes_ Try.func32 (by kernel_rfl) rfl #[.int .i64 ((rd_T68 l0 x15_1).f0)] (by rfl) rfl rfl (by (try simp only [List.map_toArray, List.map_cons, List.map_nil]); first | done | rfl | (simp only [List.length_drop, List.length_take]; rfl)) ?_
        with_reducible refine (ratio_Of.calls k1 ((rd_T68 l0 x15_1).f0) t339 t340 t343 _ A16.out).mono ?_
        rintro e w42 ⟨v341, v344, rfl, ho0, ho1, hb⟩
        refine ⟨_, rfl, ?_⟩
        have n0_ := Aside0.mk (Kd.R_mono (Kd.R_told (Kd.R_told (Kd.R_old (ra HO_337001.out) hb) (Kd.R_base ho0)) (Kd.R_base ho1)) (fun _ h_ => h_.1))
        have n1_ := Aside0.mk (Kd.R_mono (Kd.R_told (Kd.R_told (Kd.R_old (ra HO_337002.out) hb) (Kd.R_base ho0)) (Kd.R_base ho1)) (fun _ h_ => h_.1))
        have n2_ := Aside0.mk (Kd.R_lower (Kd.R_new' (Kd.R_new' ho0 (Kd.R_lt (ra HO_337001.out))) (Kd.R_lt (ra HO_337002.out))) (below_size (bl3 HB GE327 GE336 GE338)))
        have n3_ := Aside0.mk (Kd.R_lower (Kd.R_new' (Kd.R_new' ho1 (Kd.R_lt (ra HO_337001.out))) (Kd.R_lt (ra HO_337002.out))) (below_size (bl3 HB GE327 GE336 GE338)))
        have n4_ := Aside0.mk (blk_below (ba BK327.out) hb)
        have n5_ := Aside0.mk (blk_below (ba BK336.out) hb)
        have n6_ := Aside0.mk (blk_below (ba BK338.out) hb)
        have n7_ := Aside0.mk (below_step (bl3 HB GE327 GE336 GE338) hb)
        clear HO_337001
        clear HO_337002
        clear BK327
        clear BK336
        clear BK338
        clear HB
        have HO_337001 := n0_
        have HO_337002 := n1_
        have HO342 := n2_
        have HO345 := n3_
        have BK327 := n4_
        have BK336 := n5_
        have BK338 := n6_
        have HB := n7_
        clear n0_ n1_ n2_ n3_ n4_ n5_ n6_ n7_
        (try clear hb)
        (try clear hb2)
        (try clear hk)
        (try clear hi)
        (try clear ho0)
        (try clear ho1)
        obtain ⟨Ao43, co43, eo43⟩ := Kd.R_slice HO_337001.out
        (first | subst eo43 | (injection eo43 with f1_ f2_ f3_; have f4_ := f1_.symm; have f5_ := f3_.symm; clear f1_ f2_ f3_; subst f4_; subst f5_))
        obtain ⟨Ao44, co44, eo44⟩ := Kd.R_slice HO_337002.out
        (first | subst eo44 | (injection eo44 with f1_ f2_ f3_; have f4_ := f1_.symm; have f5_ := f3_.symm; clear f1_ f2_ f3_; subst f4_; subst f5_))
        obtain ⟨Ao45, co45, eo45⟩ := Kd.R_slice HO342.out
        (first | subst eo45 | (injection eo45 with f1_ f2_ f3_; have f4_ := f1_.symm; have f5_ := f3_.symm; clear f1_ f2_ f3_; subst f4_; subst f5_))
        obtain ⟨Ao46, co46, eo46⟩ := Kd.R_slice HO345.out
        (first | subst eo46 | (injection eo46 with f1_ f2_ f3_; have f4_ := f1_.symm; have f5_ := f3_.symm; clear f1_ f2_ f3_; subst f4_; subst f5_))
        refine hK.out _ _ ⟨(blk_cell BK336.out 0).trans rfl, (blk_cell BK336.out 1).trans rfl, (blk_cell BK336.out 2).trans rfl, (blk_cell BK338.out 0).trans rfl, (blk_cell BK338.out 1).trans rfl⟩ (fun hHeld => ?_)
        clear hK K
        refine norm_ (a' := ?_) ?_ ?_
        rotate_left
        ·show Act.put _ (some 23) _ = _
         simp only [Act.put, List.setIfInBounds_toArray, List.set_cons_zero, List.set_cons_succ, i64_w, i32_w]
         rfl
        refine one_ (i := 4) (N := some 24) #[true, true, true, true, true, false, false, false, false, false] rfl rfl (one_of HT_.out (by kernel_rfl)) (by decide) (fun K hK => ?_)
        refine goes_ Try.func33 (by kernel_rfl) rfl #[.agg #[.bool x337000_1, .slice Ao43 x337001_1.length co43, .slice Ao44 x337002_1.length co44], .agg #[.bool t339, .slice Ao45 t340.length co45, .slice Ao46 t343.length co46]] (by rfl) rfl rfl (by (try simp only [List.map_toArray, List.map_cons, List.map_nil]); first | done | rfl | (simp only [List.length_drop, List.length_take]; rfl)) ?_
        with_reducible refine (ratio_Div.calls k1 x337000_1 (fun k_ => some k_ = (.slice Ao43 x337001_1.length co43 : Value).ownBlock) _ _ x337001_1 (fun k_ => some k_ = (.slice Ao44 x337002_1.length co44 : Value).ownBlock) _ _ x337002_1 t339 (fun k_ => some k_ = (.slice Ao45 t340.length co45 : Value).ownBlock) _ _ t340 (fun k_ => some k_ = (.slice Ao46 t343.length co46 : Value).ownBlock) _ _ t343 t346 t347 t350 t353 _ ?side1 ?side2 ?side3 ?side4 A17.out).mono ?_
        (case side1 => exact Kd.R_V (Kd.R_tight rfl (Kd.R_types (Kd.R_types (Kd.R_types (HO_337001.out) BK327.out (by decide)) BK336.out (by decide)) BK338.out (by decide))))
        (case side2 => exact Kd.R_V (Kd.R_tight rfl (Kd.R_types (Kd.R_types (Kd.R_types (HO_337002.out) BK327.out (by decide)) BK336.out (by decide)) BK338.out (by decide))))
        (case side3 => exact Kd.R_V (Kd.R_tight rfl (Kd.R_types (Kd.R_types (Kd.R_types (HO342.out) BK327.out (by decide)) BK336.out (by decide)) BK338.out (by decide))))
        (case side4 => exact Kd.R_V (Kd.R_tight rfl (Kd.R_types (Kd.R_types (Kd.R_types (HO345.out) BK327.out (by decide)) BK336.out (by decide)) BK338.out (by decide))))
        rintro e w47 ⟨v348, v351, rfl, ho0, ho1, hb⟩
        refine ⟨_, rfl, ?_⟩
        have n0_ := Aside0.mk (Kd.R_mono (Kd.R_told (Kd.R_told (Kd.R_old (ra HO_337001.out) hb) (Kd.R_base ho0)) (Kd.R_base ho1)) (fun _ h_ => h_.1))
        have n1_ := Aside0.mk (Kd.R_mono (Kd.R_told (Kd.R_told (Kd.R_old (ra HO_337002.out) hb) (Kd.R_base ho0)) (Kd.R_base ho1)) (fun _ h_ => h_.1))
        have n2_ := Aside0.mk (Kd.R_mono (Kd.R_told (Kd.R_told (Kd.R_old (ra HO342.out) hb) (Kd.R_base ho0)) (Kd.R_base ho1)) (fun _ h_ => h_.1))
        have n3_ := Aside0.mk (Kd.R_mono (Kd.R_told (Kd.R_told (Kd.R_old (ra HO345.out) hb) (Kd.R_base ho0)) (Kd.R_base ho1)) (fun _ h_ => h_.1))
        have n4_ := Aside0.mk (Kd.R_lower (Kd.R_new' (Kd.R_new' (Kd.R_new' (Kd.R_new' (Kd.R_mono (ok' := fun k_ => some k_ ≠ (v351 : Value).ownBlock) ho0 (fun _ hk_ => hk_.2)) (Kd.R_lt (ra HO_337001.out))) (Kd.R_lt (ra HO_337002.out))) (Kd.R_lt (ra HO342.out))) (Kd.R_lt (ra HO345.out))) (below_size (bl3 HB GE327 GE336 GE338)))
        have n5_ := Aside0.mk (Kd.R_lower (Kd.R_new' (Kd.R_new' (Kd.R_new' (Kd.R_new' (Kd.R_mono (ok' := fun k_ => some k_ ≠ (v348 : Value).ownBlock) ho1 (fun _ hk_ => hk_.2)) (Kd.R_lt (ra HO_337001.out))) (Kd.R_lt (ra HO_337002.out))) (Kd.R_lt (ra HO342.out))) (Kd.R_lt (ra HO345.out))) (below_size (bl3 HB GE327 GE336 GE338)))
        have n6_ := Aside0.mk (blk_below (ba BK327.out) hb)
        have n7_ := Aside0.mk (blk_below (ba BK336.out) hb)
        have n8_ := Aside0.mk (blk_below (ba BK338.out) hb)
        have n9_ := Aside0.mk (below_step (bl3 HB GE327 GE336 GE338) hb)
        clear HO_337001
        clear HO_337002
        clear HO342
        clear HO345
        clear BK327
        clear BK336
        clear BK338
        clear HB
        have HO_337001 := n0_
        have HO_337002 := n1_
        have HO342 := n2_
        have HO345 := n3_
        have HO349 := n4_
        have HO352 := n5_
        have BK327 := n6_
        have BK336 := n7_
        have BK338 := n8_
        have HB := n9_
        clear n0_ n1_ n2_ n3_ n4_ n5_ n6_ n7_ n8_ n9_
        (try clear hb)
        (try clear hb2)
        (try clear hk)
        (try clear hi)
        (try clear ho0)
        (try clear ho1)
        obtain ⟨Ao49, co49, eo49⟩ := Kd.R_slice HO349.out
        (first | subst eo49 | (injection eo49 with f1_ f2_ f3_; have f4_ := f1_.symm; have f5_ := f3_.symm; clear f1_ f2_ f3_; subst f4_; subst f5_))
        obtain ⟨Ao51, co51, eo51⟩ := Kd.R_slice HO352.out
        (first | subst eo51 | (injection eo51 with f1_ f2_ f3_; have f4_ := f1_.symm; have f5_ := f3_.symm; clear f1_ f2_ f3_; subst f4_; subst f5_))
        refine hK.out _ _ ⟨(blk_cell BK336.out 0).trans rfl, (blk_cell BK336.out 1).trans rfl, (blk_cell BK336.out 2).trans rfl, (blk_cell BK338.out 0).trans rfl, (blk_cell BK338.out 1).trans rfl⟩ (fun hHeld => ?_)
        clear hK K
        refine norm_ (a' := ?_) ?_ ?_
        rotate_left
        ·show Act.put _ (some 24) _ = _
         simp only [Act.put, List.setIfInBounds_toArray, List.set_cons_zero, List.set_cons_succ, i64_w, i32_w]
         rfl
        refine pure_ (i := 5) (N := some 19) (v := ?_) (a' := ?_) #[true, true, true, true, true, true, false, false, false, false] rfl rfl (any_of HT_.out (by kernel_rfl)) (fun _ _ _ h => h) (Or.inl ⟨by rfl, ?_⟩) ?_ ?_
        rotate_left
        ·intro w'
         go_simp
         with_reducible rfl
        rotate_left
        ·simp only [Act.put, List.setIfInBounds_toArray, List.set_cons_zero, List.set_cons_succ, i64_w, i32_w]
         rfl
        refine pure_ (i := 6) (N := some 25) (v := ?_) (a' := ?_) #[true, true, true, true, true, true, true, false, false, false] rfl rfl (any_of HT_.out (by kernel_rfl)) (fun _ _ _ h => h) (Or.inl ⟨by rfl, ?_⟩) ?_ ?_
        rotate_left
        ·intro w'
         go_simp
         with_reducible rfl
        rotate_left
        ·simp only [Act.put, List.setIfInBounds_toArray, List.set_cons_zero, List.set_cons_succ, i64_w, i32_w]
         rfl
        refine pure_ (i := 7) (N := some 26) (v := ?_) (a' := ?_) #[true, true, true, true, true, true, true, true, false, false] rfl rfl (any_of HT_.out (by kernel_rfl)) (fun _ _ _ h => h) (Or.inl ⟨by rfl, ?_⟩) ?_ ?_
        rotate_left
        ·intro w'
         go_simp
         with_reducible rfl
        rotate_left
        ·simp only [Act.put, List.setIfInBounds_toArray, List.set_cons_zero, List.set_cons_succ, i64_w, i32_w]
         rfl
        refine last_ (i := 8) (N := none) #[true, true, true, true, true, true, true, true, true, false] rfl rfl (one_of HT_.out (by kernel_rfl)) (by decide) (fun K hK => ?_)
        have hs48 : w47.cell? ⟨gb336, 0, none⟩ = some (.bool x337000_1) := (blk_cell BK336.out 0).trans rfl
        have hfs48 := blk_frozen BK336.out 0
        have hns48_0 := NB327_336.out
        have hns48_2 := NB338_336.out
        have hms48_0 := NB336_327.out
        have hms48_2 := NB336_338.out
        have hs50 : w47.cell? ⟨gb336, 1, none⟩ = some (.slice Ao43 x337001_1.length co43) := (blk_cell BK336.out 1).trans rfl
        have hfs50 := blk_frozen BK336.out 1
        have hns50_0 := NB327_336.out
        have hns50_2 := NB338_336.out
        have hms50_0 := NB336_327.out
        have hms50_2 := NB336_338.out
        have hs52 : w47.cell? ⟨gb336, 2, none⟩ = some (.slice Ao44 x337002_1.length co44) := (blk_cell BK336.out 2).trans rfl
        have hfs52 := blk_frozen BK336.out 2
        have hns52_0 := NB327_336.out
        have hns52_2 := NB338_336.out
        have hms52_0 := NB336_327.out
        have hms52_2 := NB336_338.out
        refine skip_ (w1 := ?_) (by rfl) rfl ?_ ?_
        rotate_left
        ·go_simp
         rfl
        refine hK.out _ _ ?_
        clear hK K
        refine pure_ (i := 9) (N := some 7) (v := ?_) (a' := ?_) #[true, true, true, true, true, true, true, true, true, true] rfl rfl (any_of HT_.out (by kernel_rfl)) (fun _ _ _ h => h) (Or.inl ⟨by rfl, ?_⟩) ?_ ?_
        rotate_left
        ·intro w'
         go_simp
         with_reducible rfl
        rotate_left
        ·simp only [Act.put, List.setIfInBounds_toArray, List.set_cons_zero, List.set_cons_succ, i64_w, i32_w]
         rfl
        refine done_ (done_of HT_.out (by kernel_rfl)) ?_
        have hnb53 := NB327_336.out
        have hnc53 := NB336_327.out
        have hcz54_0 : w47.cell? ⟨gb327, 0, none⟩ = some (.bool x328000_1) := (blk_cell BK327.out 0).trans rfl
        have hcz54_1 : w47.cell? ⟨gb327, 1, none⟩ = some (.slice none 0 0) := (blk_cell BK327.out 1).trans rfl
        have hcz54_2 : w47.cell? ⟨gb327, 2, none⟩ = some (.slice none 0 0) := (blk_cell BK327.out 2).trans rfl
        have hfz54_0 := blk_frozen BK327.out 0
        have hfz54_1 := blk_frozen BK327.out 1
        have hfz54_2 := blk_frozen BK327.out 2
        try go_wp2
        refine bodyPost_ret (results_ct rfl _ _ gb327 36 #[.bool false, .slice none 0 0, .slice none 0 0] (0, 0) _ rfl (by (with_reducible repeat (first | refine blk_drewN ?_ _ | refine blk_drew ?_ | refine blk_alloc ?_ _)); refine blk_put (cs := #[.bool false, .slice none 0 0, .slice none 0 0]) ?_ 2 _ rfl; (with_reducible repeat (first | refine blk_drewN ?_ _ | refine blk_drew ?_ | refine blk_alloc ?_ _)); refine blk_put (cs := #[.bool false, .slice none 0 0, .slice none 0 0]) ?_ 1 _ rfl; (with_reducible repeat (first | refine blk_drewN ?_ _ | refine blk_drew ?_ | refine blk_alloc ?_ _)); refine blk_put (cs := #[.bool x328000_1, .slice none 0 0, .slice none 0 0]) ?_ 0 _ rfl; (with_reducible repeat (first | refine blk_drewN ?_ _ | refine blk_drew ?_ | refine blk_alloc ?_ _)); refine blk_far ?_ NB327_336.out _; (with_reducible repeat (first | refine blk_drewN ?_ _ | refine blk_drew ?_ | refine blk_alloc ?_ _)); refine blk_far ?_ NB327_336.out _; (with_reducible repeat (first | refine blk_drewN ?_ _ | refine blk_drew ?_ | refine blk_alloc ?_ _)); refine blk_far ?_ NB327_336.out _; (with_reducible repeat (first | refine blk_drewN ?_ _ | refine blk_drew ?_ | refine blk_alloc ?_ _)); exact BK327.out) Try.underlying36 rfl (by kernel_rfl)) rfl ?_
        exact ⟨_, _, by first | rfl | simp [*], by first | exact Kd.R_nil _ _ _ _ _ | exact Kd.V_nil _ _ _ _ _, by first | exact Kd.R_nil _ _ _ _ _ | exact Kd.V_nil _ _ _ _ _, bl3 HB GE327 GE336 GE338⟩
      ·rw [if_neg c15] at H
       exact absurd H (by simp)
     ·rw [if_neg c14] at H
      exact absurd H (by simp)
    ·rw [if_neg c13] at H
     have c13b0 : decide (x15_1 < (l0.length : Int)) = false := decide_eq_false c13
     clear c13
     simp only [Option.some.injEq, Prod.mk.injEq] at H
     obtain ⟨rfl, rfl, rfl, rfl⟩ := H
     have hnb55 := NB336_327.out
     have hnc55 := NB327_336.out
     have hcz56_0 : wr.cell? ⟨gb336, 0, none⟩ = some (.bool x337000_1) := (blk_cell BK336.out 0).trans rfl
     have hcz56_1 : wr.cell? ⟨gb336, 1, none⟩ = some (u337001) := (blk_cell BK336.out 1).trans rfl
     have hcz56_2 : wr.cell? ⟨gb336, 2, none⟩ = some (u337002) := (blk_cell BK336.out 2).trans rfl
     have hfz56_0 := blk_frozen BK336.out 0
     have hfz56_1 := blk_frozen BK336.out 1
     have hfz56_2 := blk_frozen BK336.out 2
     have hcz57_0 : wr.cell? ⟨gb327, 0, none⟩ = some (.bool x328000_1) := (blk_cell BK327.out 0).trans rfl
     have hcz57_1 : wr.cell? ⟨gb327, 1, none⟩ = some (.slice none 0 0) := (blk_cell BK327.out 1).trans rfl
     have hcz57_2 : wr.cell? ⟨gb327, 2, none⟩ = some (.slice none 0 0) := (blk_cell BK327.out 2).trans rfl
     have hfz57_0 := blk_frozen BK327.out 0
     have hfz57_1 := blk_frozen BK327.out 1
     have hfz57_2 := blk_frozen BK327.out 2
     obtain ⟨Ao58, co58, eo58⟩ := Kd.R_slice HO_337001.out
     subst eo58
     obtain ⟨Ao59, co59, eo59⟩ := Kd.R_slice HO_337002.out
     subst eo59
     go_wp2
     refine bodyPost_ret (results_ct rfl _ _ gb327 36 #[.bool x337000_1, .slice Ao58 x337001_1.length co58, .slice Ao59 x337002_1.length co59] (0, 0) _ rfl (by exact bp BK327.out rfl) Try.underlying36 rfl (by kernel_rfl)) rfl ?_
     exact ⟨_, _, by first | rfl | simp [*], ra (Kd.R_mono (Kd.R_far (p := ⟨gb327, 2, none⟩) (Kd.R_far (p := ⟨gb327, 1, none⟩) (Kd.R_far (p := ⟨gb327, 0, none⟩) (Kd.R_types HO_337001.out BK327.out (by decide)) (fun _ hk => hk.2) (.bool x337000_1)) (fun _ hk => hk.2) (.slice Ao58 x337001_1.length co58)) (fun _ hk => hk.2) (.slice Ao59 x337002_1.length co59)) (fun _ hk => hk.1)), ra (Kd.R_mono (Kd.R_far (p := ⟨gb327, 2, none⟩) (Kd.R_far (p := ⟨gb327, 1, none⟩) (Kd.R_far (p := ⟨gb327, 0, none⟩) (Kd.R_types HO_337002.out BK327.out (by decide)) (fun _ hk => hk.2) (.bool x337000_1)) (fun _ hk => hk.2) (.slice Ao58 x337001_1.length co58)) (fun _ hk => hk.2) (.slice Ao59 x337002_1.length co59)) (fun _ hk => hk.1)), bl2 HB GE327 GE336⟩
 ·replace c3 := Bool.eq_false_iff.mpr c3
  subst c3
  have H1 : (some (false, ([] : List Int), ([] : List Int), 2)) = some (r1, r2, r3, r4) := by rw [if_neg (show ¬ (false = true) by decide)] at H; exact H
  clear H
  have H := H1
  clear H1
  simp only [Option.some.injEq, Prod.mk.injEq] at H
  obtain ⟨rfl, rfl, rfl, rfl⟩ := H
  go_enter Try.func11, Try.ntmps11
  go_wp2_with (first | ((with_reducible refine gate_dst (N := 2) rfl ?_); refine box_event ?hg (N := 2) ?hd (cs := #[.bool false, .slice none 0 0, .slice none 0 0]) (t := 36) ?hr ?_; (case hd => rfl); (case hg => rfl); (case hr => first | (go_simp; done) | (go_simp; rfl)); intro gb327 hg w60 hbox hb; have n_ := mk4 (below_step (bl HB) hb) (hbox) ((by rw [hg]; exact (below_size (bl HB)) : w.heap.size ≤ gb327)) ((by rw [hg]; exact (below_size (bl HB)) : w.heap.size ≤ gb327)); clear HB; obtain ⟨HB, BK327, GW327, GE327⟩ := n_; clear hb hbox hg) | ((with_reducible refine gate_callee (f := 27) rfl ?_); refine goesM (some 9) rfl rfl Try.func27 (by kernel_rfl) rfl #[.slice A0 l0.length c0] rfl (by rfl) ?_; (with_reducible refine (odds_good.calls k _ _ l0 false _ ?side1 ?side2 A2.out).mono ?_); (case side1 => exact ca (Kd.C_below HR0.out HB.out)); (case side2 => exact HC0.out); rintro e w61 ⟨rfl, hb⟩; refine ⟨_, rfl, ?_⟩; have n_ := mk2 (blk_below (ba BK327.out) hb) (below_step (bl1 HB GE327) hb); clear BK327 HB; obtain ⟨BK327, HB⟩ := n_; (try clear hb); (try clear hb2); (try clear hk); (try clear hi); obtain ⟨hcz62_0, hcz62_1, hcz62_2, hfz62_0, hfz62_1, hfz62_2⟩ := blk3 BK327.out))
  refine bodyPost_ret (results_ct rfl _ _ gb327 36 #[.bool false, .slice none 0 0, .slice none 0 0] (0, 0) _ rfl (by exact bp BK327.out rfl) Try.underlying36 rfl (by kernel_rfl)) rfl ?_
  exact ⟨_, _, by first | rfl | simp [*], by first | exact Kd.R_nil _ _ _ _ _ | exact Kd.V_nil _ _ _ _ _, by first | exact Kd.R_nil _ _ _ _ _ | exact Kd.V_nil _ _ _ _ _, bl1 HB GE327⟩
end Go.Proofs.Ytjppanekddljbaa.Pr
/- odds.Total: the Go code answers the sum of the floats, from the first on. -/
namespace Go.Proofs.Ytjppanekddljbaa.H
open Go.RowKit Go.Proofs.Ytjppanekddljbaa.Pr Go.Proofs.YtjppanekddljbaaW.PrintWords Go.Proofs.YtjppanekddljbaaW.PrintLast Go.Proofs.YtjppanekddljbaaW.PrintMore
open Go.Proofs.Ytjppanekddljbaa.Fl
def kf : Kd Nat := Kd.scalar (Value.float .f64) (fun _ => rfl)
theorem info25 : (Try.prog.info? 25).map (fun i => (i.zero, i.size, i.bytes)) = some (some (.float .f64 0), 1, 8) := by kernel_rfl
theorem at_f {w : World} {A : Option Addr} {n : Nat} {xs : List Nat} (h : kf.C w A n xs) (i : Int) (h0 : 0 ≤ i) (h1 : i < n) : ∃ ad, A = some ad ∧ w.cell? (ad.add i.toNat) = some (.float .f64 (xs.getD i.toNat 0)) := by
  have h' := Kd.reads_of_C (d := 0) h
  obtain ⟨ad, e, hc⟩ := h'.2.2 (by omega)
  exact ⟨ad, e, by simpa using hc i.toNat (by omega)⟩
theorem run_add_ok {x y r : Nat} (h : Ieee.double.add x y = some r) (t : TypeId) (w : World) : (binOp .add t (.float .f64 x) (.float .f64 y)).run Try.prog w = .ok (.float .f64 r) w := run_float_arith w .add t .f64 x y r h
theorem run_add_nan {x y : Nat} (h : Ieee.double.add x y = none) (t : TypeId) (w : World) : ∃ b, isNaN b = true ∧ (binOp .add t (.float .f64 x) (.float .f64 y)).run Try.prog w = .ok (.float .f64 b) w.drew := by
  refine ⟨(Question.nanBits .f64 x y).cut (w.tape w.drawn (.nanBits .f64 x y)), nan_cut _, ?_⟩
  have h' : FloatKind.f64.format.add x y = none := h
  simp only [binOp, Op.floatArith, h']
  simp [run_choose_drew, Question.forced]
/-- the sum of a list, from nought on; none: it is no number -/
def sumF (l : List Nat) : Option Nat := l.foldl (fun a x => a.bind fun a => Ieee.double.add a x) (some 0)
theorem sumF_snoc (l : List Nat) (x : Nat) : sumF (l ++ [x]) = (sumF l).bind fun a => Ieee.double.add a x := by simp [sumF]
theorem sumF_not_nan {l : List Nat} {a : Nat} (h : sumF l = some a) : isNaN a = false := by
  rcases List.eq_nil_or_concat l with rfl | ⟨l', x, rfl⟩
  · obtain rfl := Option.some.inj h; decide
  · rw [List.concat_eq_append, sumF_snoc] at h
    obtain ⟨b, _, hb⟩ := Option.bind_eq_some_iff.1 h
    exact add_not_nan hb
/-- what stands for a sum in the machine: the sum, or some NaN -/
def Stands (s : Option Nat) (b : Nat) : Prop := match s with | some a => b = a | none => isNaN b = true
theorem stands_nan {s : Option Nat} {b : Nat} (h : Stands s b) (hn : isNaN b = true) (hs : ∀ a, s = some a → isNaN a = false) : s = none := by
  cases s with
  | none => rfl
  | some a => exact absurd hn (by rw [show b = a from h, hs a rfl]; decide)
theorem run_add_stands {s : Option Nat} {b x : Nat} (h : Stands s b) (t : TypeId) (w : World) :
    ∃ b' w', Drawn0 w w' ∧ Stands (s.bind fun a => Ieee.double.add a x) b' ∧ (binOp .add t (.float .f64 b) (.float .f64 x)).run Try.prog w = .ok (.float .f64 b') w' := by
  have none_case : Ieee.double.add b x = none → ∃ b' w', Drawn0 w w' ∧ isNaN b' = true ∧ (binOp .add t (.float .f64 b) (.float .f64 x)).run Try.prog w = .ok (.float .f64 b') w' := fun hn => by
    obtain ⟨b', h1, h2⟩ := run_add_nan hn t w
    exact ⟨b', _, ⟨1, rfl⟩, h1, h2⟩
  cases s with
  | none => exact none_case (add_nan_left h)
  | some a =>
    obtain rfl : b = a := h
    cases hb : Ieee.double.add b x with
    | none =>
      obtain ⟨b', w', h1, h2, h3⟩ := none_case hb
      exact ⟨b', w', h1, by simp only [hb, Option.bind_some]; exact h2, h3⟩
    | some r => exact ⟨r, w, Drawn0.refl _, by simp [hb, Stands], run_add_ok hb t w⟩
set_option maxHeartbeats 1000000 in
theorem total_calls (A : Option Addr) (c : Nat) (l : List Nat) (w : World) (hr : kf.C w A l.length l) (hc : l.length ≤ c) :
    Calls Try.prog 15 #[.slice A l.length c] w fun e w' => e = .returned (.float .f64 ((sumF l).getD 9221120237041090561)) ∧ Drawn0 w w' := by
  have hmax : l.length ≤ 9223372036854775807 := hr.2.1
  have HR := Aside0.mk hr
  clear hr
  go_enter Try.func15, Try.ntmps15
  go_wp2
  go_loopg [3, 8] l.length (fun kq v3 v8 w' => ∃ (i : Nat) (b : Nat), v8 = .int .i64 i ∧ v3 = .float .f64 b ∧ Aside0 (kq = l.length - i) ∧ i ≤ l.length ∧ Aside0 (Stands (sumF (l.take i)) b) ∧ Drawn0 w w')
  case atStart => exact ⟨0, 0, rfl, rfl, ⟨by omega⟩, by omega, ⟨rfl⟩, Drawn0.refl _⟩
  case round =>
    obtain ⟨i, b, rfl, rfl, HK, hi, HS, ⟨m, rfl⟩⟩ := hrel
    by_cases hlt : i < l.length
    · obtain ⟨ad, e, hx⟩ := at_f HR.out (i : Int) (by omega) (by omega)
      cases e
      simp only [Int.toNat_natCast] at hx
      obtain ⟨x, hxx⟩ : ∃ x, l.getD i 0 = x := ⟨_, rfl⟩
      rw [hxx] at hx
      obtain ⟨b', w2, ⟨n, hw2⟩, hs2, hadd⟩ := run_add_stands (x := x) HS.out 25 (w.drewN m)
      have hsn : (sumF (l.take (i + 1))) = (sumF (l.take i)).bind fun a => Ieee.double.add a x := by
        rw [List.take_succ_eq_append_getElem hlt, sumF_snoc, ← hxx]
        simp [List.getD, hlt]
      clear hxx
      rw [← hsn] at hs2
      have HS2 := Aside0.mk hs2
      clear hs2 hsn HS
      subst hw2
      simp only [World.drewN_drewN] at hadd
      go_wp2
      go_roundg (l.length - (i + 1))
      case measure => have := HK.out; omega
      case rel => exact ⟨i + 1, b', by go_num, rfl, ⟨rfl⟩, by omega, HS2, Drawn0.step (Drawn0.refl _) _⟩
    · have HT : Aside0 (l.take i = l) := ⟨List.take_of_length_le (by omega)⟩
      by_cases hn : isNaN b = true
      · have hord : (FloatKind.f64.format.order b b != some .eq) = true := by
          show (Ieee.double.order b b != some .eq) = true
          rw [order_nan_left hn]; decide
        have HN : Aside0 (sumF l = none) := ⟨stands_nan (HT.out ▸ HS.out) hn (fun a h => sumF_not_nan h)⟩
        clear hn HS
        go_wp2_with (go_at_call 25; refine (nan_calls _).mono ?_; rintro e w' ⟨rfl, ⟨nd, rfl⟩⟩)
        go_ret
        exact ⟨by rw [HN.out]; rfl, by repeat (first | exact Drawn0.refl _ | apply Drawn0.step)⟩
      · replace hn : isNaN b = false := Bool.eq_false_iff.mpr hn
        have hord : (FloatKind.f64.format.order b b != some .eq) = false := by
          show (Ieee.double.order b b != some .eq) = false
          rw [order_self hn]; decide
        have HN : Aside0 ((sumF l).getD 9221120237041090561 = b) := ⟨by
          have h := HS.out
          rw [HT.out] at h
          cases hs : sumF l with
          | none => rw [hs] at h; exact absurd (show isNaN b = true from h) (by rw [hn]; decide)
          | some a => rw [hs] at h; exact (show b = a from h).symm⟩
        clear hn HS
        go_wp2
        go_ret
        exact ⟨by rw [HN.out]; rfl, by repeat (first | exact Drawn0.refl _ | apply Drawn0.step)⟩
end Go.Proofs.Ytjppanekddljbaa.H
