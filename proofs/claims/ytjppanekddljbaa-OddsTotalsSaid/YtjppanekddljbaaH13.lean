/- The law's wakes returns true. -/
import Derived.Test.YtjppanekddljbaaH12
import Derived.Test.YtjppanekddljbaaA2
namespace Go.Proofs.Ytjppanekddljbaa.H
set_option linter.unusedVariables false
set_option linter.unusedSimpArgs false
open Go.RowKit Go.Proofs.Ytjppanekddljbaa.Pr Go.Proofs.YtjppanekddljbaaW.PrintWords Go.Proofs.YtjppanekddljbaaW.PrintLast Go.Proofs.YtjppanekddljbaaW.PrintMore
open Go.Proofs.Ytjppanekddljbaa.Fl

/-! what wakes asks: closed calls, reckoned -/
def W13 : List Nat := [4607182418800017408, 4613937818241073152]
def WNM : List Nat := [9221120237041090561, 13830554455654793216]
def L1 : List S68 := [⟨2, 1⟩, ⟨2, 0⟩]
def L2 : List S68 := [⟨2, 1⟩, ⟨3, 0⟩]
theorem k1 : (List.range 2).map (shareW (wOf W13 0) 2) = [4598175219545276416, 4604930618986332160] := by decide +kernel
theorem k2 : (List.range 2).map (shareW (wOf WNM 0) 2) = [4602678819172646912, 4602678819172646912] := by decide +kernel
theorem k3 : chanceTo W13 L1 2 = some 4603241769126068224 := by decide +kernel
theorem k4 : sumF [9214871658872686752, 9214871658872686752] = some 9218868437227405312 := by decide +kernel
theorem k5 : odds_Exact.f 40 L2 = some (false, [1], [6], 0) := by decide +kernel
theorem k6 : goodB L1 = true ∧ goodB L2 = true := by decide +kernel
theorem C_lit2 (w : World) (a b : Nat) : kf.C (w.alloc (.cells #[.float .f64 a, .float .f64 b] 25)) (some ⟨w.heap.size, 0, none⟩) 2 [a, b] := by
  refine Kd.C_of_reads (d := 0) (h1 := fun _ => rfl) ⟨rfl, by omega, fun _ => ⟨_, rfl, fun j hj => ?_⟩⟩
  rw [add_plain]
  rcases (by omega : j = 0 ∨ j = 1) with rfl | rfl <;> go_simp <;> rfl
theorem C_litP (w : World) (a b c d : Int) (n : Nat) (hn : n = w.heap.size) : Kd.C k68 (w.alloc (.cells #[.int .i64 a, .int .i64 b, .int .i64 c, .int .i64 d] 68)) (some ⟨n, 0, none⟩) 2 [⟨a, b⟩, ⟨c, d⟩] := by
  subst hn
  refine ⟨rfl, by omega, fun _ => ⟨_, rfl, fun j p hj => ?_⟩⟩
  have hlt : j < 2 := (List.getElem?_eq_some_iff.1 hj).1
  rcases (by omega : j = 0 ∨ j = 1) with rfl | rfl
  · obtain rfl : (⟨a, b⟩ : S68) = p := by simpa using hj
    refine ⟨_, rfl, k68_mk _ _, fun i u hi => ?_⟩
    have hlt : i < 2 := (List.getElem?_eq_some_iff.1 hi).1
    rcases (by omega : i = 0 ∨ i = 1) with rfl | rfl
    · obtain rfl := Option.some.inj hi; rw [add_plain]; go_simp
    · obtain rfl := Option.some.inj hi; rw [add_plain]; go_simp
  · obtain rfl : (⟨c, d⟩ : S68) = p := by simpa using hj
    refine ⟨_, rfl, k68_mk _ _, fun i u hi => ?_⟩
    have hlt : i < 2 := (List.getElem?_eq_some_iff.1 hi).1
    rcases (by omega : i = 0 ∨ i = 1) with rfl | rfl
    · obtain rfl := Option.some.inj hi; rw [add_plain]; go_simp; rfl
    · obtain rfl := Option.some.inj hi; rw [add_plain]; go_simp; rfl
theorem k7 : sibylref02_Text.f 100 false [1] [6] = some (⟨#[49, 47, 54]⟩, 0) := by kernel_rfl

set_option maxHeartbeats 4000000 in
set_option maxRecDepth 100000 in
theorem wakes_calls (w : World) : Calls Try.prog 7 #[] w fun e w' => e = .returned (.bool true) ∧ Below w.heap.size w w' := by
  go_enter Try.func7, Try.ntmps7
  go_wp2_with (fail)
  refine (shares_ok _ _ W13 0 2 _ (C_lit2 w _ _) (by decide) (by decide) (by decide) (by omega) (by omega) (by omega) (by omega)).mono ?_
  rintro e w1 ⟨v1, rfl, ho1, hb1⟩
  obtain ⟨g1, cap1, e1, hg1, hl1, _⟩ := Kd.R_form ho1 (by decide)
  rw [k1] at ho1 e1
  subst e1
  have HB1 := Aside0.mk (below_step (below_alloc (Below.refl _ _) _) hb1)
  clear hb1
  have ca := own_f_cell ho1 0 (by decide)
  have cb := own_f_cell ho1 1 (by decide)
  simp only [List.getD] at ca cb
  clear ho1 hg1
  go_wp2_with (fail)
  refine (nan_calls _).mono ?_
  rintro e w' ⟨rfl, ⟨nd, rfl⟩⟩
  go_wp2_with (fail)
  refine (shares_ok _ _ WNM 0 2 _ (Kd.C_drewN (C_lit2 w1 _ _) _) (by decide) (by decide) (by decide) (by omega) (by omega) (by omega) (by omega)).mono ?_
  rintro e w2 ⟨v2, rfl, ho2, hb2⟩
  obtain ⟨g2, cap2, e2, _, _, _⟩ := Kd.R_form ho2 (by decide)
  rw [k2] at ho2 e2
  subst e2
  replace hb2 := below_step (pw_below_drewN (below_alloc (Below.refl _ _) _) nd) hb2
  replace HB1 := Aside0.mk (below_step HB1.out hb2)
  replace ca := pw_cell_below hb2 ca
  replace cb := pw_cell_below hb2 cb
  have cc := own_f_cell ho2 0 (by decide)
  simp only [List.getD] at cc
  clear ho2 hb2
  go_wp2_with (fail)
  refine (chance_ok _ _ W13 _ _ L1 4603241769126068224 _ (Kd.C_alloc (C_lit2 w2 _ _) _) (by decide) (by decide) (by decide) (C_litP _ _ _ _ _ _ (by simp)) (by decide) (by decide) k6.1 k3).mono ?_
  rintro e w3 ⟨rfl, hb3⟩
  replace hb3 := below_step (below_alloc (below_alloc (Below.refl _ _) _) _) hb3
  replace HB1 := Aside0.mk (below_step HB1.out hb3)
  replace ca := pw_cell_below hb3 ca
  replace cb := pw_cell_below hb3 cb
  replace cc := pw_cell_below hb3 cc
  clear hb3
  go_wp2_with (fail)
  refine (odds_Exact.calls 40 _ _ L2 false [1] [6] 0 _ (C_litP _ _ _ _ _ _ rfl) (by decide) k5).mono ?_
  rintro e w4 ⟨v4, v5, rfl, ho4, ho5, hb4⟩
  obtain ⟨A4, c4, e4, hl4, hc4⟩ := Kd.R_reads ho4
  obtain ⟨A5, c5, e5, hl5, hc5⟩ := Kd.R_reads ho5
  subst e4 e5
  replace hb4 := below_step (below_alloc (Below.refl _ _) _) hb4
  replace HB1 := Aside0.mk (below_step HB1.out hb4)
  replace ca := pw_cell_below hb4 ca
  replace cb := pw_cell_below hb4 cb
  replace cc := pw_cell_below hb4 cc
  have HC4 := Aside0.mk hc4
  have HC5 := Aside0.mk hc5
  clear hb4 ho4 ho5 hc4 hc5
  go_wp2_with (fail)
  refine (sibylref02_Text.calls 100 false A4 c4 [1] A5 c5 [6] ⟨#[49, 47, 54]⟩ 0 _ (Kd.C_alloc HC4.out _) hl4 (Kd.C_alloc HC5.out _) hl5 k7).mono ?_
  rintro e w5 ⟨rfl, hb5⟩
  replace hb5 := below_step (below_alloc (Below.refl _ _) _) hb5
  replace HB1 := Aside0.mk (below_step HB1.out hb5)
  replace ca := pw_cell_below hb5 ca
  replace cb := pw_cell_below hb5 cb
  replace cc := pw_cell_below hb5 cc
  clear hb5
  have q1 : (FloatKind.f64.format.order 4598175219545276416 4598175219545276416 == some .eq) = true := by decide +kernel
  have q2 : (FloatKind.f64.format.order 4604930618986332160 4604930618986332160 == some .eq) = true := by decide +kernel
  have q3 : (FloatKind.f64.format.order 4602678819172646912 4602678819172646912 == some .eq) = true := by decide +kernel
  have q4 : (FloatKind.f64.format.order 4603241769126068224 4603241769126068224 == some .eq) = true := by decide +kernel
  have q5 : (FloatKind.f64.format.order 9218868437227405312 9218868437227405311 == some .gt) = true := by decide +kernel
  simp only [List.getElem?_cons_zero, List.getElem?_cons_succ, Option.getD_some] at ca cb cc
  go_wp2_with (fail)
  refine (total_calls _ _ [9214871658872686752, 9214871658872686752] _ (C_lit2 w5 _ _) (by decide)).mono ?_
  rw [k4]
  rintro e w6 ⟨rfl, ⟨n6, rfl⟩⟩
  go_wp2_with (fail)
  go_ret
  exact ⟨rfl, pw_below_drewN (below_alloc HB1.out _) _⟩
end Go.Proofs.Ytjppanekddljbaa.H
