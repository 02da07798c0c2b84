/- odds.Shares: what the Go code computes. -/
import Derived.Test.YtjppanekddljbaaH10
namespace Go.Proofs.Ytjppanekddljbaa.H
open Go.RowKit Go.Proofs.Ytjppanekddljbaa.Pr Go.Proofs.YtjppanekddljbaaW.PrintWords Go.Proofs.YtjppanekddljbaaW.PrintLast Go.Proofs.YtjppanekddljbaaW.PrintMore
open Go.Proofs.Ytjppanekddljbaa.Fl
set_option linter.unusedVariables false
set_option linter.unusedSimpArgs false
attribute [local go_sem] run_store_float

theorem atF_lt {l : List Nat} (hl : ∀ x ∈ l, x < 18446744073709551616) (turn i : Int) : atF l turn i < 18446744073709551616 := by
  unfold atF
  split
  · omega
  · unfold oneF
    split
    · omega
    · rename_i h1 _
      have h0 : l.length ≠ 0 := fun h => h1 (.inl h)
      have hj0 : 0 ≤ (turn % l.length + i % l.length) % (l.length : Int) := Int.emod_nonneg _ (by omega)
      have hj1 : (turn % l.length + i % l.length) % (l.length : Int) < l.length := Int.emod_lt_of_pos _ (by omega)
      have hj : ((turn % l.length + i % l.length) % (l.length : Int)).toNat < l.length := by omega
      rw [List.getD, List.getElem?_eq_getElem hj]
      exact hl _ (List.getElem_mem hj)
/-- the worths of the positions -/
def wOf (l : List Nat) (turn : Int) (i : Nat) : Nat := worthF (atF l turn i)
theorem wOf_le (l : List Nat) (turn : Int) (i : Nat) : wOf l turn i ≤ INF := worthF_le _

set_option maxHeartbeats 4000000 in
set_option maxRecDepth 100000 in
theorem shares_ok (A : Option Addr) (c : Nat) (l : List Nat) (turn : Int) (n : Nat) (w : World) (hr : kf.C w A l.length l) (hc : l.length ≤ c) (hl : l.length ≤ 4611686018427387904) (hx : ∀ x ∈ l, x < 18446744073709551616) (h1 : 1 ≤ n) (h2 : n ≤ 4096) (h3 : 0 ≤ turn) (h4 : turn ≤ 9223372036854775807) :
    Calls Try.prog 21 #[.slice A l.length c, .int .i64 turn, .int .i64 n] w fun e w' => ∃ v0_ : Value, e = .returned (.tuple #[v0_, .int .i64 0]) ∧ Kd.R kf 25 w' w.heap.size (fun _ => True) v0_ ((List.range n).map (shareW (wOf l turn) n)) ∧ Below w.heap.size w w' := by
  have HR := Aside0.mk hr
  have HC := Aside0.mk hc
  have HL := Aside0.mk hl
  have HX := Aside0.mk hx
  have HW := Aside0.mk (wOf_le l turn)
  obtain ⟨W, hW⟩ : ∃ W, W = wOf l turn := ⟨_, rfl⟩
  rw [← hW] at HW
  have HWD := Aside0.mk hW
  have g1 : decide ((n : Int) < 1) = false := decide_eq_false (by omega)
  have g2 : decide (4096 < (n : Int)) = false := decide_eq_false (by omega)
  have g3 : decide (turn < 0) = false := decide_eq_false (by omega)
  have HT := Aside0.mk h4
  have HT0 := Aside0.mk h3
  have HN1 := Aside0.mk h1
  have hn2 : n ≤ 4096 := h2
  clear hr hc hl hx hW h1 h2 h3 h4
  go_enter Try.func21, Try.ntmps21
  go_wp2_with (first
    | ((with_reducible refine gate_dst (N := 25) rfl ?_); refine Kd.R_make kf _ 25 rfl (N := 25) rfl 29 _ _ rfl (n : Int) rfl rfl Try.underlying29 (.float .f64 0) 8 info25 rfl (by decide) (by omega) 0 (ok := fun _ => True) (okp := fun _ => True) rfl (fun _ hk => hk) trivial (by omega) (by omega) (Below.refl _ _) (Nat.le_refl _) ?_; intro v1 w1 ho1 hb1 hg_ hnew_; clear hg_ hnew_; (simp only [Int.toNat_natCast] at ho1); obtain ⟨g, cap, e1, hg0, _, _⟩ := Kd.R_form ho1 (by simp; exact HN1.out); rw [List.length_replicate] at e1; subst e1; have HG := Aside0.mk hg0; clear hg0; have HO1 := Aside0.mk ho1; have HB1 := Aside0.mk hb1; clear ho1 hb1))
  go_loopg [9, 10, 28] n (fun kq v9 v10 v28 w' => ∃ (i s q : Nat), v28 = .int .i64 i ∧ v9 = .float .f64 s ∧ v10 = .float .f64 q ∧ Aside0 (kq = n - i) ∧ i ≤ n ∧ Aside0 (s = sumW W i) ∧ Aside0 (q = natF (cntW W i)) ∧ Aside0 (Kd.R kf 25 w' w.heap.size (fun _ => True) (.slice (some ⟨g, 0, none⟩) n cap) (rowAt W (fun _ => 0) n i)) ∧ Aside0 (Below w.heap.size w w'))
  case atStart => exact ⟨0, 0, 0, rfl, rfl, rfl, ⟨by omega⟩, by omega, ⟨rfl⟩, ⟨natF_zero.symm⟩, ⟨by rw [rowAt_zero]; exact HO1.out⟩, ⟨HB1.out⟩⟩
  case round =>
    obtain ⟨i, s, q, rfl, rfl, rfl, HK, hi, HS, HQ, HO, HB⟩ := hrel
    by_cases hlt : i < n
    · have HWI : Aside0 (W i = worthF (atF l turn (i : Int))) := ⟨by rw [HWD.out]; rfl⟩
      obtain ⟨x, hxx⟩ : ∃ x, W i = x := ⟨_, rfl⟩
      have hxle : x ≤ INF := by rw [← hxx]; exact HW.out i
      have HXE := Aside0.mk hxx
      have hxw : x = worthF (atF l turn (i : Int)) := hxx.symm.trans HWI.out
      have HXW := Aside0.mk hxw
      have hsle : s ≤ INF := by rw [HS.out]; exact sumW_le HW.out i
      have hqc : cntW W i ≤ i := cntW_le W i
      have HADD := Aside0.mk (faddT_ok hsle hxle)
      have hadd := fun w => run_add_ok (HADD.out).1 25 w
      have HS2 : Aside0 (faddT s x = sumW W (i + 1)) := ⟨by rw [HS.out, ← hxx]; rfl⟩
      obtain ⟨s2, hs2⟩ : ∃ s2, faddT s x = s2 := ⟨_, rfl⟩
      rw [hs2] at hadd HS2
      have HSET := Aside0.mk (own_f_set HO.out i x)
      have hfz := own_f_frozen HO.out i
      have hc0 := own_f_cell HO.out i (by omega)
      clear hxx hxw hs2 HWI
      by_cases hbig : x = INF
      · have hgt : (FloatKind.f64.format.order x 9218868437227405311 == some .gt) = true := (gt_max hxle).trans (decide_eq_true hbig)
        have HC2 : Aside0 (cntW W (i + 1) = cntW W i + 1) := ⟨by rw [cntW, if_pos (HXE.out.trans hbig)]⟩
        obtain ⟨m, hm⟩ : ∃ m, cntW W i = m := ⟨_, rfl⟩
        rw [hm] at HC2 hqc
        have HST := Aside0.mk (natF_step (show m < 4096 by omega))
        have HQ1 : Aside0 (q = natF m) := ⟨by rw [HQ.out, hm]⟩
        have hinc : ∀ w, (binOp .add 25 (.float .f64 q) (.float .f64 4607182418800017408)).run Try.prog w = .ok (.float .f64 (natF (m + 1))) w := fun w => run_add_ok (by rw [HQ1.out]; exact HST.out.1) 25 w
        obtain ⟨q2, hq2⟩ : ∃ q2, natF (m + 1) = q2 := ⟨_, rfl⟩
        rw [hq2] at hinc
        have HQ2 : Aside0 (q2 = natF (cntW W (i + 1))) := ⟨by rw [HC2.out, hq2]⟩
        clear hm hq2 hbig hxle hsle HQ
        go_wp2_with (first
          | (go_at_call 48; refine (at_calls A c l turn (i : Int) _ (Kd.C_below HR.out HB.out) HC.out HL.out HT.out (by omega)).mono ?_; rintro e w' ⟨rfl, ⟨nd1, rfl⟩⟩)
          | (go_at_call 47; refine (worth_calls' _ (atF_lt HX.out _ _) _).mono ?_; rintro e w' ⟨rfl, ⟨nd2, rfl⟩⟩; rw [← HXW.out])
          | ((with_reducible refine gate_store (t := 25) (p := 38) rfl ?_); refine store_event (t := 25) (p := 38) (v := ?vo) (w1 := ((wr.drewN (nd1 + nd2)).setCell ⟨g, i, none⟩ (.float .f64 x))) ?hg ?ho ?hn ?hr ?_; (case ho => rfl); (case hg => rfl); (case hn => rfl); (case hr => first | (go_simp; done) | (go_simp; rfl)); intro w14 hw; have HO2 := Aside0.mk (show Kd.R kf 25 w14 w.heap.size (fun _ => True) (.slice (some ⟨g, 0, none⟩) n cap) (rowAt W (fun _ => 0) n (i + 1)) from by rw [hw, ← rowAt_set, HXE.out]; exact own_f_set (Kd.R_drewN HO.out _) i x); have HB2 := Aside0.mk (show Below w.heap.size w w14 from by rw [hw]; exact below_set (pw_below_drewN HB.out _) HG.out); have hc2 : w14.cell? ⟨g, i, none⟩ = some (.float .f64 x) := (by have h_ := own_f_cell HO2.out i (by omega); rw [rowAt_get _ _ (by omega), if_pos (by omega), HXE.out] at h_; exact h_); clear hw hfz hc0 HO HB))
        go_roundg (n - (i + 1))
        case measure => have := HK.out; omega
        case rel => exact ⟨i + 1, s2, q2, by go_num, rfl, rfl, ⟨rfl⟩, by omega, HS2, HQ2, HO2, HB2⟩
      · have hgt : (FloatKind.f64.format.order x 9218868437227405311 == some .gt) = false := (gt_max hxle).trans (decide_eq_false hbig)
        have HQ2 : Aside0 (q = natF (cntW W (i + 1))) := ⟨by rw [cntW, if_neg (fun h => hbig (HXE.out.symm.trans h))]; exact HQ.out⟩
        clear hbig hxle hsle HQ
        go_wp2_with (first
          | (go_at_call 48; refine (at_calls A c l turn (i : Int) _ (Kd.C_below HR.out HB.out) HC.out HL.out HT.out (by omega)).mono ?_; rintro e w' ⟨rfl, ⟨nd1, rfl⟩⟩)
          | (go_at_call 47; refine (worth_calls' _ (atF_lt HX.out _ _) _).mono ?_; rintro e w' ⟨rfl, ⟨nd2, rfl⟩⟩; rw [← HXW.out])
          | ((with_reducible refine gate_store (t := 25) (p := 38) rfl ?_); refine store_event (t := 25) (p := 38) (v := ?vo) (w1 := ((wr.drewN (nd1 + nd2)).setCell ⟨g, i, none⟩ (.float .f64 x))) ?hg ?ho ?hn ?hr ?_; (case ho => rfl); (case hg => rfl); (case hn => rfl); (case hr => first | (go_simp; done) | (go_simp; rfl)); intro w14 hw; have HO2 := Aside0.mk (show Kd.R kf 25 w14 w.heap.size (fun _ => True) (.slice (some ⟨g, 0, none⟩) n cap) (rowAt W (fun _ => 0) n (i + 1)) from by rw [hw, ← rowAt_set, HXE.out]; exact own_f_set (Kd.R_drewN HO.out _) i x); have HB2 := Aside0.mk (show Below w.heap.size w w14 from by rw [hw]; exact below_set (pw_below_drewN HB.out _) HG.out); have hc2 : w14.cell? ⟨g, i, none⟩ = some (.float .f64 x) := (by have h_ := own_f_cell HO2.out i (by omega); rw [rowAt_get _ _ (by omega), if_pos (by omega), HXE.out] at h_; exact h_); clear hw hfz hc0 HO HB))
        go_roundg (n - (i + 1))
        case measure => have := HK.out; omega
        case rel => exact ⟨i + 1, s2, q, by go_num, rfl, rfl, ⟨rfl⟩, by omega, HS2, HQ2, HO2, HB2⟩
    · obtain rfl : i = n := by omega
      have HO2 : Aside0 (Kd.R kf 25 wr w.heap.size (fun _ => True) (.slice (some ⟨g, 0, none⟩) i cap) (rowAt (shareW W i) W i 0)) := ⟨by rw [← rowAt_next W (fun _ => 0) (shareW W i) i]; exact HO.out⟩
      have HCNT := Aside0.mk (cntW_le W i)
      have hsle : s ≤ INF := by rw [HS.out]; exact sumW_le HW.out i
      have hqle : q ≤ INF := by rw [HQ.out]; exact natF_le (by have := HCNT.out; omega)
      have HSE := Aside0.mk hsle
      have HQE := Aside0.mk hqle
      clear HO hsle hqle hlt
      go_wp2
      go_loopg [55] i (fun kq v55 w' => ∃ j : Nat, v55 = .int .i64 j ∧ Aside0 (kq = i - j) ∧ j ≤ i ∧ Aside0 (Kd.R kf 25 w' w.heap.size (fun _ => True) (.slice (some ⟨g, 0, none⟩) i cap) (rowAt (shareW W i) W i j)) ∧ Aside0 (Below w.heap.size w w'))
      case atStart => exact ⟨0, rfl, ⟨by omega⟩, by omega, HO2, HB⟩
      case round =>
        clear HO2 HB
        obtain ⟨j, rfl, HK2, hj, HO, HB⟩ := hrel
        by_cases hlt : j < i
        · obtain ⟨x, hxx⟩ : ∃ x, W j = x := ⟨_, rfl⟩
          have hxle : x ≤ INF := by rw [← hxx]; exact HW.out j
          have HXE := Aside0.mk hxx
          have hc0 : wr.cell? ⟨g, j, none⟩ = some (.float .f64 x) := by
            have h_ := own_f_cell HO.out j hlt
            rw [rowAt_get _ _ hlt, if_neg (by omega), HXE.out] at h_
            exact h_
          have hfz := own_f_frozen HO.out j
          obtain ⟨y, hy⟩ : ∃ y, shareW W i j = y := ⟨_, rfl⟩
          have HYE := Aside0.mk hy
          have HSET : Aside0 (Kd.R kf 25 (wr.setCell ⟨g, j, none⟩ (.float .f64 y)) w.heap.size (fun _ => True) (.slice (some ⟨g, 0, none⟩) i cap) (rowAt (shareW W i) W i (j + 1))) := ⟨by rw [← rowAt_set, HYE.out]; exact own_f_set HO.out j y⟩
          have HBS : Aside0 (Below w.heap.size w (wr.setCell ⟨g, j, none⟩ (.float .f64 y))) := ⟨below_set HB.out HG.out⟩
          have hcv : ∀ w, (convert 3 25 (.int .i64 (i : Int))).run Try.prog w = .ok (.float .f64 (natF i)) w := fun w => by
            rw [run_convert_int_float w 3 25 .i64 .f64 (i : Int) (by kernel_rfl) Try.underlying25]
            have : (decide ((i : Int) < 0)) = false := decide_eq_false (by omega)
            simp only [floatOfInt, FloatKind.nearest, FloatKind.encode, this, Int.natAbs_natCast]
            rfl
          clear hxx hy
          by_cases hcnt : 0 < cntW W i
          · have hq0 : (FloatKind.f64.format.order q 0 == some .gt) = true := (gt_zero (by have := HQE.out; unfold INF at this; omega)).trans (decide_eq_true ⟨Nat.pos_of_ne_zero (by rw [HQ.out]; exact (natF_pos hcnt (by have := HCNT.out; omega)).2), HQE.out⟩)
            by_cases hbig : x = INF
            · have hgt : (FloatKind.f64.format.order x 9218868437227405311 == some .gt) = true := (gt_max hxle).trans (decide_eq_true hbig)
              have HD : Aside0 (fdivT ONE q = y) := ⟨by rw [← HYE.out, shareW, if_pos hcnt, if_pos (HXE.out.trans hbig), HQ.out]⟩
              have hdv : ∀ w, (binOp .quo 25 (.float .f64 4607182418800017408) (.float .f64 q)).run Try.prog w = .ok (.float .f64 y) w := fun w => run_float_arith w .quo 25 .f64 _ _ _ (by rw [← HD.out]; exact (fdivT_one HQE.out).1)
              clear hbig hxle hcnt
              go_wp2
              go_roundg (i - (j + 1))
              case measure => have := HK2.out; omega
              case rel => exact ⟨j + 1, by go_num, ⟨rfl⟩, by omega, HSET, HBS⟩
            · have hgt : (FloatKind.f64.format.order x 9218868437227405311 == some .gt) = false := (gt_max hxle).trans (decide_eq_false hbig)
              have hy0 : y = 0 := by rw [← HYE.out, shareW, if_pos hcnt, if_neg (fun h => hbig (HXE.out.symm.trans h))]
              subst hy0
              clear hbig hxle hcnt
              go_wp2
              go_roundg (i - (j + 1))
              case measure => have := HK2.out; omega
              case rel => exact ⟨j + 1, by go_num, ⟨rfl⟩, by omega, HSET, HBS⟩
          · have hqz : q = 0 := by rw [HQ.out, show cntW W i = 0 from by omega]; exact natF_zero
            have HNB : Aside0 (x ≠ INF) := ⟨fun h => hcnt (cntW_pos (HXE.out.trans h) i hlt)⟩
            have hq0 : (FloatKind.f64.format.order q 0 == some .gt) = false := by rw [hqz]; decide
            clear hqz
            by_cases hs0 : s = 0
            · have hse : (FloatKind.f64.format.order s 0 == some .eq) = true := (eq_zero HSE.out).trans (decide_eq_true hs0)
              have HD : Aside0 (fdivT ONE (natF i) = y) := ⟨by rw [← HYE.out, shareW, if_neg hcnt, if_pos (HS.out.symm.trans hs0)]⟩
              have hdv : ∀ w, (binOp .quo 25 (.float .f64 4607182418800017408) (.float .f64 (natF i))).run Try.prog w = .ok (.float .f64 y) w := fun w => run_float_arith w .quo 25 .f64 _ _ _ (by rw [← HD.out]; exact (fdivT_one (natF_le hn2)).1)
              clear hs0 hxle hcnt
              go_wp2
              go_roundg (i - (j + 1))
              case measure => have := HK2.out; omega
              case rel => exact ⟨j + 1, by go_num, ⟨rfl⟩, by omega, HSET, HBS⟩
            · have hse : (FloatKind.f64.format.order s 0 == some .eq) = false := (eq_zero HSE.out).trans (decide_eq_false hs0)
              have HD : Aside0 (fdivT x s = y) := ⟨by rw [← HYE.out, shareW, if_neg hcnt, if_neg (fun h => hs0 (HS.out.trans h)), HS.out, HXE.out]⟩
              have hdv : ∀ w, (binOp .quo 25 (.float .f64 x) (.float .f64 s)).run Try.prog w = .ok (.float .f64 y) w := fun w => run_float_arith w .quo 25 .f64 _ _ _ (by rw [← HD.out]; exact (fdivT_fin (by have := HNB.out; omega) HSE.out hs0).1)
              clear hs0 hxle hcnt
              go_wp2
              go_roundg (i - (j + 1))
              case measure => have := HK2.out; omega
              case rel => exact ⟨j + 1, by go_num, ⟨rfl⟩, by omega, HSET, HBS⟩
        · obtain rfl : j = i := by omega
          have HO3 : Aside0 (Kd.R kf 25 wr w.heap.size (fun _ => True) (.slice (some ⟨g, 0, none⟩) j cap) ((List.range j).map (shareW (wOf l turn) j))) := ⟨by rw [← HWD.out, ← rowAt_full (shareW W j) W j]; exact HO.out⟩
          go_wp2
          go_ret2
          exact ⟨_, rfl, HO3.out, HB.out⟩
end Go.Proofs.Ytjppanekddljbaa.H
